/-
  The code computes what the plain functions say. Printed by a tool.
-/
import Derived.Test.YtghnfeflknfclaaDoorW
set_option linter.unusedVariables false
set_option linter.unusedSimpArgs false
set_option maxRecDepth 20000
set_option maxHeartbeats 8000000
namespace Go.Proofs.YtghnfeflknfclaaDoor
open Go Go.Vc Go.Sh
attribute [local irreducible] WpC WpOps WpPi WpO Exact TCall VEnds Sh.loopS

theorem w_emendref04_Lines {H0 : Heap} {l_1 : List GTok} {r : List GLine} (h : emendref04_Lines l_1 = some r) : TCall Tryd.prog 19 [(AV.rows 6 (List.map cGTok l_1))] H0 (fun v H' => v = (AV.rows 4 (List.map cGLine r)) ∧ H' = H0) noE := by
  refine id (TCall.body Tryd.func19 rfl rfl ?_)
  have hH : Holds H0 [] H0 := rfl
  refine WpC.seqR ?_
  refine WpOps.pn 1 rfl trivial ?_
  refine WpOps.nil ?_
  refine WpC.seqR ?_
  refine WpOps.pn 1 rfl trivial ?_
  have hH := hH.nil 31 4
  refine WpOps.nil ?_
  refine WpC.seqR ?_
  refine WpOps.pn 1 rfl trivial ?_
  refine WpOps.nil ?_
  refine WpC.seq ?_
  refine WpC.seqR ?_
  refine WpOps.pn 1 rfl trivial ?_
  refine WpOps.nil ?_
  refine WpC.blockK (fun x : (Int × List GLine) × ((Option (Nat × Nat))) => [(0, (AV.rows 6 (List.map cGTok l_1))), (3, (.own (List.map cGLine x.1.2).length x.2)), (4, (iA x.1.1))]) (fun x H' => (emendref04_Lines_j1 l_1) x.1 = some r ∧ Holds H0 [.own 31 4 x.2 (List.map cGLine x.1.2)] H') ?_ ?_
  ·
    obtain ⟨o_1, ho_1, hk_1⟩ := Sh.bind_some h
    refine WpC.loopS (emendref04_Lines_b2 l_1) (fun (s : Int × Int × List GLine) (a : (Option (Nat × Nat))) => [(0, (AV.rows 6 (List.map cGTok l_1))), (3, (.own (List.map cGLine s.2.2).length a)), (4, (iA s.1)), (5, (iA s.2.1))]) (fun (s : Int × Int × List GLine) (a : (Option (Nat × Nat))) H' => Holds H0 [.own 31 4 a (List.map cGLine s.2.2)] H') o_1 ((0 : Int), (0 : Int), ([] : List GLine)) none ho_1 ⟨rfl, rfl, rfl, rfl, trivial⟩ hH ?_
    rintro ⟨from_1, i_1, out_1⟩ p_1 st_1 env H' h hd_1 hH
    refine WpC.seq ?_
    refine WpC.seqR ?_
    refine WpOps.pn 3 rfl trivial ?_
    refine WpOps.at 8 (len_map _ _) ?_
    refine WpOps.pn 1 rfl trivial ?_
    refine WpOps.nil ?_
    refine WpC.condB rfl (fun hb => ?_) (fun hb => ?_)
    ·
      replace h := Sh.ite_pos hb h
      refine WpC.skipD ?_
      refine ⟨_, Heap.le_refl _, ?_⟩
      refine WpC.seq ?_
      refine WpC.block ?_
      refine WpC.seqR ?_
      obtain ⟨y_1, hy_1, h⟩ := Sh.bind_some h
      refine WpOps.pn 2 rfl trivial ?_
      refine WpOps.consE (v := (.rop (cGTok y_1))) rfl rfl (Exact.ixr cGTok hy_1 rfl rfl rfl rfl (by kernel_rfl) (by decide)) ?_
      refine WpOps.pn 1 rfl trivial ?_
      refine WpOps.consE (v := (iA y_1.kind)) rfl rfl (Exact.load_rop rfl rfl rfl) ?_
      refine WpOps.pn 1 rfl trivial ?_
      refine WpOps.nil ?_
      refine WpC.condB rfl (fun hb => ?_) (fun hb => ?_)
      ·
        replace h := Sh.ite_pos hb h
        refine WpC.seqR ?_
        obtain ⟨c_1, h⟩ := Sh.chk_some h
        refine WpOps.pn 4 rfl trivial ?_
        refine WpOps.pn 1 rfl (show 0 ≤ from_1 ∧ 0 ≤ i_1 ∧ True ∧ ((from_1).toNat ≤ (i_1).toNat ∧ (i_1).toNat ≤ (List.map cGTok l_1).length) ∧ True from ⟨(by omega), (by omega), trivial, (by simp only [List.length_map]; omega), trivial⟩) ?_
        refine WpOps.at 22 (rows_cut 6 cGTok l_1 _ _) ?_
        obtain ⟨r_1, hr_1, h⟩ := Sh.bind_some h
        refine WpOps.pn 1 rfl trivial ?_
        refine WpOps.consE (v := (AV.agg (cGLine r_1))) rfl rfl (Exact.call rfl rfl rfl (w_emendref04_line hr_1)) ?_
        refine WpOps.consE (v := (AV.rows 4 (List.map cGLine ([r_1] : List GLine)))) rfl rfl (Exact.litSlice rfl (by kernel_rfl)) ?_
        obtain ⟨c_2, h⟩ := Sh.chk_some h
        refine WpOps.consG rfl rfl (WpO.pushT cGLine out_1 ([r_1] : List GLine) (i := 0) rfl ek23 hH rfl rfl rfl (.rows _) (fun y _ => one_cGLine y) (by simp) c_2 (by decide) fun p_2 H' hH => ?_)
        refine WpOps.pn 1 rfl trivial ?_
        refine WpOps.nil ?_
        refine WpC.regionD ?_
        obtain ⟨c_3, h⟩ := Sh.chk_some h
        refine WpOps.pn 3 rfl c_3 ?_
        refine WpOps.nil ?_
        refine ⟨_, Heap.le_refl _, ?_⟩
        refine WpC.regionD ?_
        obtain ⟨c_4, h⟩ := Sh.chk_some h
        refine WpOps.pn 3 rfl c_4 ?_
        refine WpOps.nil ?_
        obtain rfl := Sh.some_inj h
        exact ⟨_, (Heap.le_refl _), ((i_1 + (1 : Int)), (i_1 + (1 : Int)), (out_1 ++ ([r_1] : List GLine))), p_2, rfl, ⟨rfl, rfl, rfl, rfl, trivial⟩, hH⟩
      ·
        replace h := Sh.ite_neg hb h
        refine WpC.skipD ?_
        refine ⟨_, Heap.le_refl _, ?_⟩
        refine WpC.regionD ?_
        obtain ⟨c_5, h⟩ := Sh.chk_some h
        refine WpOps.pn 3 rfl c_5 ?_
        refine WpOps.nil ?_
        obtain rfl := Sh.some_inj h
        exact ⟨_, (Heap.le_refl _), (from_1, (i_1 + (1 : Int)), out_1), p_1, rfl, ⟨rfl, rfl, rfl, rfl, trivial⟩, hH⟩
    ·
      replace h := Sh.ite_neg hb h
      obtain rfl := Sh.some_inj h
      have e := hd_1 _ rfl
      subst e
      refine WpC.exit ?_
      exact ⟨((from_1, out_1), p_1), ⟨rfl, rfl, rfl, trivial⟩, hk_1, hH⟩
  ·
    rintro ⟨⟨from_2, out_2⟩, p_3⟩ env H' ⟨h, hH⟩
    try dsimp only at h
    refine ⟨_, Heap.le_refl _, ?_⟩
    refine WpC.seqK (fun x : (List GLine) × ((Option (Nat × Nat))) => [(3, (.own (List.map cGLine x.1).length x.2))]) (fun x H' => emendref04_Lines_j3 x.1 = some r ∧ Holds H0 [.own 31 4 x.2 (List.map cGLine x.1)] H') ?_ ?_
    ·
      refine WpC.seqR ?_
      refine WpOps.pn 3 rfl trivial ?_
      refine WpOps.at 31 (len_map _ _) ?_
      refine WpOps.pn 1 rfl trivial ?_
      refine WpOps.nil ?_
      refine WpC.condB rfl (fun hb => ?_) (fun hb => ?_)
      ·
        replace h := Sh.ite_pos hb h
        refine WpC.regionD ?_
        obtain ⟨c_6, h⟩ := Sh.chk_some h
        refine WpOps.pn 3 rfl trivial ?_
        refine WpOps.pn 1 rfl (show 0 ≤ from_2 ∧ True ∧ True ∧ (from_2).toNat ≤ (List.map cGTok l_1).length ∧ True from ⟨(by omega), trivial, trivial, (by simp only [List.length_map]; omega), trivial⟩) ?_
        refine WpOps.at 36 (rows_drop 6 cGTok l_1 _) ?_
        obtain ⟨r_2, hr_2, h⟩ := Sh.bind_some h
        refine WpOps.pn 1 rfl trivial ?_
        refine WpOps.consE (v := (AV.agg (cGLine r_2))) rfl rfl (Exact.call rfl rfl rfl (w_emendref04_line hr_2)) ?_
        refine WpOps.consE (v := (AV.rows 4 (List.map cGLine ([r_2] : List GLine)))) rfl rfl (Exact.litSlice rfl (by kernel_rfl)) ?_
        obtain ⟨c_7, h⟩ := Sh.chk_some h
        refine WpOps.consG rfl rfl (WpO.pushT cGLine out_2 ([r_2] : List GLine) (i := 0) rfl ek23 hH rfl rfl rfl (.rows _) (fun y _ => one_cGLine y) (by simp) c_7 (by decide) fun p_4 H' hH => ?_)
        refine WpOps.pn 1 rfl trivial ?_
        refine WpOps.nil ?_
        exact ⟨_, (Heap.le_refl _), ((out_2 ++ ([r_2] : List GLine)), p_4), ⟨rfl, trivial⟩, h, hH⟩
      ·
        replace h := Sh.ite_neg hb h
        refine WpC.skipD ?_
        exact ⟨_, (Heap.le_refl _), (out_2, p_3), ⟨rfl, trivial⟩, h, hH⟩
    ·
      rintro ⟨out_3, p_5⟩ env H' ⟨h, hH⟩
      try dsimp only at h
      refine WpC.seqR ?_
      refine WpOps.pn 2 rfl trivial ?_
      refine WpOps.nil ?_
      refine WpC.freeze (t := 2) (i := 0) hH rfl rfl (fun H' hH => ?_)
      obtain rfl := Sh.some_inj h
      refine WpC.ret ?_
      exact VEnds.ret1 rfl rfl ⟨rfl, hH⟩

theorem w_emendref02_Join {H0 : Heap} {text_1 : List UInt8} {r : List GChar} (h : emendref02_Join text_1 = some r) : TCall Tryd.prog 47 [(sA text_1)] H0 (fun v H' => v = (AV.rows 2 (List.map cGChar r)) ∧ H' = H0) noE := by
  refine id (TCall.body Tryd.func47 rfl rfl ?_)
  have hH : Holds H0 [] H0 := rfl
  refine WpC.seqR ?_
  refine WpOps.pn 1 rfl trivial ?_
  refine WpOps.nil ?_
  refine WpC.seqR ?_
  refine WpOps.pn 1 rfl trivial ?_
  have hH := hH.nil 67 2
  refine WpOps.nil ?_
  refine WpC.seqR ?_
  refine WpOps.pn 1 rfl trivial ?_
  refine WpOps.nil ?_
  refine WpC.seqB (fun x : (List GChar) × ((Option (Nat × Nat))) => [(3, (.own (List.map cGChar x.1).length x.2))]) (fun x H' => emendref02_Join_j1 x.1 = some r ∧ Holds H0 [.own 67 2 x.2 (List.map cGChar x.1)] H') ?_ ?_
  ·
    obtain ⟨o_1, ho_1, hk_1⟩ := Sh.bind_some h
    refine WpC.loopS (emendref02_Join_b2 text_1) (fun (s : Int × List GChar) (a : (Option (Nat × Nat))) => [(0, (sA text_1)), (3, (.own (List.map cGChar s.2).length a)), (4, (iA s.1))]) (fun (s : Int × List GChar) (a : (Option (Nat × Nat))) H' => Holds H0 [.own 67 2 a (List.map cGChar s.2)] H') o_1 ((0 : Int), ([] : List GChar)) none ho_1 ⟨rfl, rfl, rfl, trivial⟩ hH ?_
    rintro ⟨i_1, out_1⟩ p_1 st_1 env H' h hd_1 hH
    refine WpC.seq ?_
    refine WpC.seqR ?_
    refine WpOps.pn 4 rfl trivial ?_
    refine WpOps.nil ?_
    refine WpC.condB rfl (fun hb => ?_) (fun hb => ?_)
    ·
      replace h := Sh.ite_pos hb h
      refine WpC.skipD ?_
      refine ⟨_, Heap.le_refl _, ?_⟩
      refine WpC.block ?_
      refine WpC.seq ?_
      refine WpC.seqR ?_
      obtain ⟨ch_1, hch_1, h⟩ := Sh.bind_some h
      refine WpOps.pn 2 rfl trivial ?_
      refine WpOps.consE (v := (u8A ch_1)) rfl rfl (Exact.ixs hch_1 rfl rfl rfl rfl) ?_
      refine WpOps.pn 1 rfl trivial ?_
      obtain ⟨b_1, g_1, h⟩ := Sh.bind_some h
      refine WpOps.cutB 7 19 (bA b_1) rfl ?_ ?_
      ·
        refine WpOps.pn 1 rfl trivial ?_
        refine WpOps.split 13 rfl (fun hb => ?_) (fun hb => ?_)
        ·
          replace g_1 := Sh.ite_pos hb g_1
          obtain ⟨c_1, g_1⟩ := Sh.chk_some g_1
          refine WpOps.pn 6 rfl c_1 ?_
          refine WpOps.nil ?_
          obtain rfl := Sh.some_inj g_1
          exact ⟨rfl, rfl⟩
        ·
          replace g_1 := Sh.ite_neg hb g_1
          refine WpOps.pn 6 rfl trivial ?_
          refine WpOps.nil ?_
          obtain rfl := Sh.some_inj g_1
          exact ⟨rfl, rfl⟩
      intro env
      obtain ⟨b_2, g_2, h⟩ := Sh.bind_some h
      refine WpOps.cutB 7 26 (bA b_2) rfl ?_ ?_
      ·
        refine WpOps.pn 1 rfl trivial ?_
        refine WpOps.split 20 rfl (fun hb => ?_) (fun hb => ?_)
        ·
          replace g_2 := Sh.ite_pos hb g_2
          obtain ⟨c_2, g_2⟩ := Sh.chk_some g_2
          obtain ⟨ch_2, hch_2, g_2⟩ := Sh.bind_some g_2
          refine WpOps.pn 3 rfl c_2 ?_
          refine WpOps.consE (v := (u8A ch_2)) rfl rfl (Exact.ixs hch_2 rfl rfl rfl rfl) ?_
          refine WpOps.pn 2 rfl trivial ?_
          refine WpOps.nil ?_
          obtain rfl := Sh.some_inj g_2
          exact ⟨rfl, rfl⟩
        ·
          replace g_2 := Sh.ite_neg hb g_2
          refine WpOps.pn 6 rfl trivial ?_
          refine WpOps.nil ?_
          obtain rfl := Sh.some_inj g_2
          exact ⟨rfl, rfl⟩
      intro env
      refine WpOps.nil ?_
      refine WpC.condB rfl (fun hb => ?_) (fun hb => ?_)
      ·
        replace h := Sh.ite_pos hb h
        refine WpC.seqR ?_
        obtain ⟨c_3, h⟩ := Sh.chk_some h
        refine WpOps.pn 3 rfl c_3 ?_
        refine WpOps.nil ?_
        refine WpC.exitD ?_
        obtain rfl := Sh.some_inj h
        exact ⟨_, (Heap.le_refl _), ((i_1 + (2 : Int)), out_1), p_1, rfl, ⟨rfl, rfl, rfl, trivial⟩, hH⟩
      ·
        replace h := Sh.ite_neg hb h
        refine WpC.skipD ?_
        refine ⟨_, Heap.le_refl _, ?_⟩
        refine WpC.seqR ?_
        obtain ⟨ch_3, hch_3, h⟩ := Sh.bind_some h
        refine WpOps.pn 3 rfl trivial ?_
        refine WpOps.consE (v := (u8A ch_3)) rfl rfl (Exact.ixs hch_3 rfl rfl rfl rfl) ?_
        refine WpOps.pn 2 rfl trivial ?_
        refine WpOps.consE (v := (AV.rows 2 (List.map cGChar ([(GChar.mk ch_3 i_1)] : List GChar)))) rfl rfl (Exact.litSlice rfl (by kernel_rfl)) ?_
        obtain ⟨c_4, h⟩ := Sh.chk_some h
        refine WpOps.consG rfl rfl (WpO.pushT cGChar out_1 ([(GChar.mk ch_3 i_1)] : List GChar) (i := 0) rfl ek58 hH rfl rfl rfl (.rows _) (fun y _ => one_cGChar y) (by simp) c_4 (by decide) fun p_2 H' hH => ?_)
        refine WpOps.pn 1 rfl trivial ?_
        refine WpOps.nil ?_
        refine WpC.regionD ?_
        obtain ⟨c_5, h⟩ := Sh.chk_some h
        refine WpOps.pn 3 rfl c_5 ?_
        refine WpOps.nil ?_
        obtain rfl := Sh.some_inj h
        exact ⟨_, (Heap.le_refl _), ((i_1 + (1 : Int)), (out_1 ++ ([(GChar.mk ch_3 i_1)] : List GChar))), p_2, rfl, ⟨rfl, rfl, rfl, trivial⟩, hH⟩
    ·
      replace h := Sh.ite_neg hb h
      obtain rfl := Sh.some_inj h
      have e := hd_1 _ rfl
      subst e
      refine WpC.exit ?_
      exact ⟨(out_1, p_1), ⟨rfl, trivial⟩, hk_1, hH⟩
  ·
    rintro ⟨out_2, p_3⟩ env H' ⟨h, hH⟩
    try dsimp only at h
    refine WpC.seqR ?_
    refine WpOps.pn 2 rfl trivial ?_
    refine WpOps.nil ?_
    refine WpC.freeze (t := 2) (i := 0) hH rfl rfl (fun H' hH => ?_)
    obtain rfl := Sh.some_inj h
    refine WpC.ret ?_
    exact VEnds.ret1 rfl rfl ⟨rfl, hH⟩

theorem w_emendref02_Text {H0 : Heap} {l_1 : List GChar} {r : List UInt8} (h : emendref02_Text l_1 = some r) : TCall Tryd.prog 48 [(AV.rows 2 (List.map cGChar l_1))] H0 (fun v H' => v = (sA r) ∧ H' = H0) noE := by
  refine id (TCall.body Tryd.func48 rfl rfl ?_)
  have hH : Holds H0 [] H0 := rfl
  refine WpC.seqR ?_
  refine WpOps.pn 1 rfl trivial ?_
  refine WpOps.nil ?_
  refine WpC.seqR ?_
  refine WpOps.pn 1 rfl trivial ?_
  refine WpOps.nil ?_
  refine WpC.seq ?_
  refine WpC.seqR ?_
  refine WpOps.pn 1 rfl trivial ?_
  refine WpOps.nil ?_
  refine WpC.blockK (fun x : (List UInt8) × (Unit) => [(3, (sA x.1))]) (fun x H' => emendref02_Text_j1 x.1 = some r ∧ Holds H0 [] H') ?_ ?_
  ·
    obtain ⟨o_1, ho_1, hk_1⟩ := Sh.bind_some h
    refine WpC.loopS (emendref02_Text_b2 l_1) (fun (s : List UInt8 × Int) (a : Unit) => [(0, (AV.rows 2 (List.map cGChar l_1))), (3, (sA s.1)), (4, (iA s.2))]) (fun (s : List UInt8 × Int) (a : Unit) H' => Holds H0 [] H') o_1 (([] : List UInt8), (0 : Int)) () ho_1 ⟨rfl, rfl, rfl, trivial⟩ hH ?_
    rintro ⟨s_1, i_1⟩ _ st_1 env H' h hd_1 hH
    refine WpC.seq ?_
    refine WpC.seqR ?_
    refine WpOps.pn 3 rfl trivial ?_
    refine WpOps.at 7 (len_map _ _) ?_
    refine WpOps.pn 1 rfl trivial ?_
    refine WpOps.nil ?_
    refine WpC.condB rfl (fun hb => ?_) (fun hb => ?_)
    ·
      replace h := Sh.ite_pos hb h
      refine WpC.skipD ?_
      refine ⟨_, Heap.le_refl _, ?_⟩
      refine WpC.seq ?_
      refine WpC.block ?_
      refine WpC.regionD ?_
      obtain ⟨y_1, hy_1, h⟩ := Sh.bind_some h
      refine WpOps.pn 3 rfl trivial ?_
      refine WpOps.consE (v := (.rop (cGChar y_1))) rfl rfl (Exact.ixr cGChar hy_1 rfl rfl rfl rfl (by kernel_rfl) (by decide)) ?_
      refine WpOps.pn 1 rfl trivial ?_
      refine WpOps.consE (v := (u8A y_1.b)) rfl rfl (Exact.load_rop rfl rfl rfl) ?_
      refine WpOps.consE (v := (AV.rows 1 (List.map cU ([y_1.b] : List UInt8)))) rfl rfl (Exact.litSlice rfl (by kernel_rfl)) ?_
      refine WpOps.consE (v := (sA ([y_1.b] : List UInt8))) rfl rfl (Exact.string_of_bytes (bs := ([y_1.b] : List UInt8)) rfl rfl rfl rfl rfl (.rows _)) ?_
      obtain ⟨c_1, h⟩ := Sh.chk_some h
      refine WpOps.pn 2 rfl c_1 ?_
      refine WpOps.nil ?_
      refine ⟨_, Heap.le_refl _, ?_⟩
      refine WpC.regionD ?_
      obtain ⟨c_2, h⟩ := Sh.chk_some h
      refine WpOps.pn 3 rfl c_2 ?_
      refine WpOps.nil ?_
      obtain rfl := Sh.some_inj h
      exact ⟨_, (Heap.le_refl _), ((s_1 ++ ([y_1.b] : List UInt8)), (i_1 + (1 : Int))), (), rfl, ⟨rfl, rfl, rfl, trivial⟩, hH⟩
    ·
      replace h := Sh.ite_neg hb h
      obtain rfl := Sh.some_inj h
      have e := hd_1 _ rfl
      subst e
      refine WpC.exit ?_
      exact ⟨(s_1, ()), ⟨rfl, trivial⟩, hk_1, hH⟩
  ·
    rintro ⟨s_2, _⟩ env H' ⟨h, hH⟩
    try dsimp only at h
    refine ⟨_, Heap.le_refl _, ?_⟩
    refine WpC.seqR ?_
    refine WpOps.pn 2 rfl trivial ?_
    refine WpOps.nil ?_
    obtain rfl := Sh.some_inj h
    refine WpC.ret ?_
    exact VEnds.ret1 rfl rfl ⟨rfl, hH⟩

theorem w_emendref03_is {H0 : Heap} {s_1 : List UInt8} {i_1 : Int} {t_1 : List UInt8} {r : Bool} (h : emendref03_is s_1 i_1 t_1 = some r) : TCall Tryd.prog 81 [(sA s_1), (iA i_1), (sA t_1)] H0 (fun v H' => v = (bA r) ∧ H' = H0) noE := by
  refine id (TCall.body Tryd.func81 rfl rfl ?_)
  have hH : Holds H0 [] H0 := rfl
  refine WpC.seqR ?_
  refine WpOps.pn 1 rfl trivial ?_
  refine WpOps.nil ?_
  refine WpC.seqR ?_
  obtain ⟨c_1, h⟩ := Sh.chk_some h
  refine WpOps.pn 7 rfl c_1 ?_
  obtain ⟨b_1, g_1, h⟩ := Sh.bind_some h
  refine WpOps.cutB 11 24 (bA b_1) rfl ?_ ?_
  ·
    refine WpOps.pn 1 rfl trivial ?_
    refine WpOps.split 14 rfl (fun hb => ?_) (fun hb => ?_)
    ·
      replace g_1 := Sh.ite_pos hb g_1
      obtain ⟨c_2, g_1⟩ := Sh.chk_some g_1
      obtain ⟨c_3, g_1⟩ := Sh.chk_some g_1
      refine WpOps.pn 6 rfl c_2 ?_
      refine WpOps.pn 1 rfl (show 0 ≤ i_1 ∧ 0 ≤ (i_1 + (t_1.length : Int)) ∧ ((i_1).toNat ≤ ((i_1 + (t_1.length : Int))).toNat ∧ ((i_1 + (t_1.length : Int))).toNat ≤ s_1.length) from ⟨(by omega), (by omega), (by omega)⟩) ?_
      refine WpOps.pn 3 rfl trivial ?_
      refine WpOps.nil ?_
      obtain rfl := Sh.some_inj g_1
      exact ⟨rfl, rfl⟩
    ·
      replace g_1 := Sh.ite_neg hb g_1
      refine WpOps.pn 10 rfl trivial ?_
      refine WpOps.nil ?_
      obtain rfl := Sh.some_inj g_1
      exact ⟨rfl, rfl⟩
  intro env
  refine WpOps.pn 1 rfl trivial ?_
  refine WpOps.nil ?_
  obtain rfl := Sh.some_inj h
  refine WpC.ret ?_
  exact VEnds.ret1 rfl rfl ⟨rfl, hH⟩

theorem w_emendref03_blank {H0 : Heap} {s_1 : List UInt8} {i_1 : Int} {r : Int} (h : emendref03_blank s_1 i_1 = some r) : TCall Tryd.prog 49 [(sA s_1), (iA i_1)] H0 (fun v H' => v = (iA r) ∧ H' = H0) noE := by
  refine id (TCall.body Tryd.func49 rfl rfl ?_)
  have hH : Holds H0 [] H0 := rfl
  refine WpC.seqR ?_
  refine WpOps.pn 1 rfl trivial ?_
  refine WpOps.nil ?_
  refine WpC.seq ?_
  refine WpC.seqR ?_
  obtain ⟨ch_1, hch_1, h⟩ := Sh.bind_some h
  refine WpOps.pn 2 rfl trivial ?_
  refine WpOps.consE (v := (u8A ch_1)) rfl rfl (Exact.ixs hch_1 rfl rfl rfl rfl) ?_
  refine WpOps.pn 1 rfl trivial ?_
  obtain ⟨b_1, g_1, h⟩ := Sh.bind_some h
  refine WpOps.cutB 6 18 (bA b_1) rfl ?_ ?_
  ·
    refine WpOps.pn 1 rfl trivial ?_
    refine WpOps.split 13 rfl (fun hb => ?_) (fun hb => ?_)
    ·
      replace g_1 := Sh.ite_pos hb g_1
      refine WpOps.pn 5 rfl trivial ?_
      refine WpOps.nil ?_
      obtain rfl := Sh.some_inj g_1
      exact ⟨rfl, rfl⟩
    ·
      replace g_1 := Sh.ite_neg hb g_1
      obtain ⟨ch_2, hch_2, g_1⟩ := Sh.bind_some g_1
      refine WpOps.pn 2 rfl trivial ?_
      refine WpOps.consE (v := (u8A ch_2)) rfl rfl (Exact.ixs hch_2 rfl rfl rfl rfl) ?_
      refine WpOps.pn 2 rfl trivial ?_
      refine WpOps.nil ?_
      obtain rfl := Sh.some_inj g_1
      exact ⟨rfl, rfl⟩
  intro env
  obtain ⟨b_2, g_2, h⟩ := Sh.bind_some h
  refine WpOps.cutB 12 30 (bA b_2) rfl ?_ ?_
  ·
    refine WpOps.pn 1 rfl trivial ?_
    refine WpOps.split 19 rfl (fun hb => ?_) (fun hb => ?_)
    ·
      replace g_2 := Sh.ite_pos hb g_2
      refine WpOps.pn 11 rfl trivial ?_
      refine WpOps.nil ?_
      obtain rfl := Sh.some_inj g_2
      exact ⟨rfl, rfl⟩
    ·
      replace g_2 := Sh.ite_neg hb g_2
      obtain ⟨ch_3, hch_3, g_2⟩ := Sh.bind_some g_2
      refine WpOps.pn 2 rfl trivial ?_
      refine WpOps.consE (v := (u8A ch_3)) rfl rfl (Exact.ixs hch_3 rfl rfl rfl rfl) ?_
      refine WpOps.pn 1 rfl trivial ?_
      obtain ⟨b_3, g_3, g_2⟩ := Sh.bind_some g_2
      refine WpOps.cutB 6 29 (bA b_3) rfl ?_ ?_
      ·
        refine WpOps.pn 1 rfl trivial ?_
        refine WpOps.split 24 rfl (fun hb => ?_) (fun hb => ?_)
        ·
          replace g_3 := Sh.ite_pos hb g_3
          obtain ⟨ch_4, hch_4, g_3⟩ := Sh.bind_some g_3
          refine WpOps.pn 2 rfl trivial ?_
          refine WpOps.consE (v := (u8A ch_4)) rfl rfl (Exact.ixs hch_4 rfl rfl rfl rfl) ?_
          refine WpOps.pn 2 rfl trivial ?_
          refine WpOps.nil ?_
          obtain rfl := Sh.some_inj g_3
          exact ⟨rfl, rfl⟩
        ·
          replace g_3 := Sh.ite_neg hb g_3
          refine WpOps.pn 5 rfl trivial ?_
          refine WpOps.nil ?_
          obtain rfl := Sh.some_inj g_3
          exact ⟨rfl, rfl⟩
      intro env
      refine WpOps.pn 1 rfl trivial ?_
      refine WpOps.nil ?_
      obtain rfl := Sh.some_inj g_2
      exact ⟨rfl, rfl⟩
  intro env
  refine WpOps.nil ?_
  refine WpC.condB rfl (fun hb => ?_) (fun hb => ?_)
  ·
    replace h := Sh.ite_pos hb h
    refine WpC.seqR ?_
    obtain ⟨c_1, h⟩ := Sh.chk_some h
    refine WpOps.pn 3 rfl c_1 ?_
    refine WpOps.nil ?_
    obtain rfl := Sh.some_inj h
    refine WpC.ret ?_
    exact VEnds.ret1 rfl rfl ⟨rfl, hH⟩
  ·
    replace h := Sh.ite_neg hb h
    refine WpC.skipD ?_
    refine ⟨_, Heap.le_refl _, ?_⟩
    refine WpC.seqR ?_
    obtain ⟨r_1, hr_1, h⟩ := Sh.bind_some h
    refine WpOps.pn 2 rfl trivial ?_
    refine WpOps.consE (v := (bA r_1)) rfl rfl (Exact.call rfl rfl rfl (w_emendref03_is hr_1)) ?_
    refine WpOps.pn 1 rfl trivial ?_
    refine WpOps.nil ?_
    refine WpC.seq ?_
    refine WpC.seqR ?_
    refine WpOps.pn 1 rfl trivial ?_
    refine WpOps.nil ?_
    refine WpC.condB rfl (fun hb => ?_) (fun hb => ?_)
    ·
      replace h := Sh.ite_pos hb h
      refine WpC.seqB (fun x : (Int) × (Unit) => [(1, (iA x.1))]) (fun x H' => emendref03_blank_j1 x.1 = some r ∧ Holds H0 [] H') ?_ ?_
      ·
        obtain ⟨o_1, ho_1, hk_1⟩ := Sh.bind_some h
        refine WpC.loopS (emendref03_blank_b2 s_1) (fun (s : Int) (a : Unit) => [(0, (sA s_1)), (1, (iA s))]) (fun (s : Int) (a : Unit) H' => Holds H0 [] H') o_1 i_1 () ho_1 ⟨rfl, rfl, trivial⟩ hH ?_
        rintro i_2 _ st_1 env H' h hd_1 hH
        refine WpC.seq ?_
        refine WpC.seqR ?_
        refine WpOps.pn 4 rfl trivial ?_
        obtain ⟨b_4, g_4, h⟩ := Sh.bind_some h
        refine WpOps.cutB 6 46 (bA b_4) rfl ?_ ?_
        ·
          refine WpOps.pn 1 rfl trivial ?_
          refine WpOps.split 41 rfl (fun hb => ?_) (fun hb => ?_)
          ·
            replace g_4 := Sh.ite_pos hb g_4
            obtain ⟨ch_5, hch_5, g_4⟩ := Sh.bind_some g_4
            refine WpOps.pn 2 rfl trivial ?_
            refine WpOps.consE (v := (u8A ch_5)) rfl rfl (Exact.ixs hch_5 rfl rfl rfl rfl) ?_
            refine WpOps.pn 2 rfl trivial ?_
            refine WpOps.nil ?_
            obtain rfl := Sh.some_inj g_4
            exact ⟨rfl, rfl⟩
          ·
            replace g_4 := Sh.ite_neg hb g_4
            refine WpOps.pn 5 rfl trivial ?_
            refine WpOps.nil ?_
            obtain rfl := Sh.some_inj g_4
            exact ⟨rfl, rfl⟩
        intro env
        refine WpOps.nil ?_
        refine WpC.condB rfl (fun hb => ?_) (fun hb => ?_)
        ·
          replace h := Sh.ite_pos hb h
          refine WpC.skipD ?_
          refine ⟨_, Heap.le_refl _, ?_⟩
          refine WpC.block ?_
          refine WpC.regionD ?_
          obtain ⟨c_2, h⟩ := Sh.chk_some h
          refine WpOps.pn 3 rfl c_2 ?_
          refine WpOps.nil ?_
          obtain rfl := Sh.some_inj h
          exact ⟨_, (Heap.le_refl _), (i_2 + (1 : Int)), (), rfl, ⟨rfl, rfl, trivial⟩, hH⟩
        ·
          replace h := Sh.ite_neg hb h
          obtain rfl := Sh.some_inj h
          have e := hd_1 _ rfl
          subst e
          refine WpC.exit ?_
          exact ⟨(i_2, ()), ⟨rfl, trivial⟩, hk_1, hH⟩
      ·
        rintro ⟨i_3, _⟩ env H' ⟨h, hH⟩
        try dsimp only at h
        refine WpC.seqR ?_
        refine WpOps.pn 2 rfl trivial ?_
        refine WpOps.nil ?_
        obtain rfl := Sh.some_inj h
        refine WpC.ret ?_
        exact VEnds.ret1 rfl rfl ⟨rfl, hH⟩
    ·
      replace h := Sh.ite_neg hb h
      refine WpC.skipD ?_
      refine ⟨_, Heap.le_refl _, ?_⟩
      refine WpC.seqR ?_
      obtain ⟨r_2, hr_2, h⟩ := Sh.bind_some h
      refine WpOps.pn 2 rfl trivial ?_
      refine WpOps.consE (v := (bA r_2)) rfl rfl (Exact.call rfl rfl rfl (w_emendref03_is hr_2)) ?_
      refine WpOps.pn 1 rfl trivial ?_
      refine WpOps.nil ?_
      refine WpC.seqK (fun x : (Unit) × (Unit) => [(1, (iA i_1))]) (fun x H' => (emendref03_blank_j3 i_1) x.1 = some r ∧ Holds H0 [] H') ?_ ?_
      ·
        refine WpC.seqR ?_
        refine WpOps.pn 1 rfl trivial ?_
        refine WpOps.nil ?_
        refine WpC.condB rfl (fun hb => ?_) (fun hb => ?_)
        ·
          replace h := Sh.ite_pos hb h
          refine WpC.seqR ?_
          obtain ⟨c_3, h⟩ := Sh.chk_some h
          refine WpOps.pn 3 rfl c_3 ?_
          refine WpOps.nil ?_
          refine WpC.blockK (fun x : (Unit) × (Unit) => [(1, (iA i_1))]) (fun x H' => (emendref03_blank_j4 i_1) x.1 = some r ∧ Holds H0 [] H') ?_ ?_
          ·
            obtain ⟨o_2, ho_2, hk_2⟩ := Sh.bind_some h
            refine WpC.loopS (emendref03_blank_b5 s_1) (fun (s : Int) (a : Unit) => [(0, (sA s_1)), (1, (iA i_1)), (7, (iA s))]) (fun (s : Int) (a : Unit) H' => Holds H0 [] H') o_2 (i_1 + (2 : Int)) () ho_2 ⟨rfl, rfl, rfl, trivial⟩ hH ?_
            rintro k_1 _ st_2 env H' h hd_2 hH
            refine WpC.seq ?_
            refine WpC.seqR ?_
            refine WpOps.pn 4 rfl trivial ?_
            refine WpOps.nil ?_
            refine WpC.condB rfl (fun hb => ?_) (fun hb => ?_)
            ·
              replace h := Sh.ite_pos hb h
              refine WpC.skipD ?_
              refine ⟨_, Heap.le_refl _, ?_⟩
              refine WpC.seq ?_
              refine WpC.block ?_
              refine WpC.seqR ?_
              obtain ⟨r_3, hr_3, h⟩ := Sh.bind_some h
              refine WpOps.pn 2 rfl trivial ?_
              refine WpOps.consE (v := (bA r_3)) rfl rfl (Exact.call rfl rfl rfl (w_emendref03_is hr_3)) ?_
              refine WpOps.pn 1 rfl trivial ?_
              refine WpOps.nil ?_
              refine WpC.seqR ?_
              refine WpOps.pn 1 rfl trivial ?_
              refine WpOps.nil ?_
              refine WpC.condB rfl (fun hb => ?_) (fun hb => ?_)
              ·
                replace h := Sh.ite_pos hb h
                refine WpC.seqR ?_
                obtain ⟨c_4, h⟩ := Sh.chk_some h
                refine WpOps.pn 3 rfl c_4 ?_
                refine WpOps.nil ?_
                obtain rfl := Sh.some_inj h
                have e := hd_2 _ rfl
                subst e
                have h := hk_2
                obtain rfl := Sh.some_inj h
                refine WpC.ret ?_
                exact VEnds.ret1 rfl rfl ⟨rfl, hH⟩
              ·
                replace h := Sh.ite_neg hb h
                refine WpC.skipD ?_
                refine ⟨_, Heap.le_refl _, ?_⟩
                refine WpC.regionD ?_
                obtain ⟨c_5, h⟩ := Sh.chk_some h
                refine WpOps.pn 3 rfl c_5 ?_
                refine WpOps.nil ?_
                obtain rfl := Sh.some_inj h
                exact ⟨_, (Heap.le_refl _), (k_1 + (1 : Int)), (), rfl, ⟨rfl, rfl, rfl, trivial⟩, hH⟩
            ·
              replace h := Sh.ite_neg hb h
              obtain rfl := Sh.some_inj h
              have e := hd_2 _ rfl
              subst e
              refine WpC.exit ?_
              exact ⟨((), ()), ⟨rfl, trivial⟩, hk_2, hH⟩
          ·
            rintro ⟨_, _⟩ env H' ⟨h, hH⟩
            try dsimp only at h
            exact ⟨_, (Heap.le_refl _), ((), ()), ⟨rfl, trivial⟩, h, hH⟩
        ·
          replace h := Sh.ite_neg hb h
          refine WpC.skipD ?_
          exact ⟨_, (Heap.le_refl _), ((), ()), ⟨rfl, trivial⟩, h, hH⟩
      ·
        rintro ⟨_, _⟩ env H' ⟨h, hH⟩
        try dsimp only at h
        refine WpC.seqR ?_
        refine WpOps.pn 2 rfl trivial ?_
        refine WpOps.nil ?_
        obtain rfl := Sh.some_inj h
        refine WpC.ret ?_
        exact VEnds.ret1 rfl rfl ⟨rfl, hH⟩

theorem w_emendref03_letter {H0 : Heap} {c_1 : UInt8} {r : Bool} (h : emendref03_letter c_1 = some r) : TCall Tryd.prog 99 [(u8A c_1)] H0 (fun v H' => v = (bA r) ∧ H' = H0) noE := by
  refine id (TCall.body Tryd.func99 rfl rfl ?_)
  have hH : Holds H0 [] H0 := rfl
  refine WpC.seqR ?_
  refine WpOps.pn 1 rfl trivial ?_
  refine WpOps.nil ?_
  refine WpC.seqR ?_
  refine WpOps.pn 2 rfl trivial ?_
  obtain ⟨b_1, g_1, h⟩ := Sh.bind_some h
  refine WpOps.cutB 8 12 (bA b_1) rfl ?_ ?_
  ·
    refine WpOps.pn 1 rfl trivial ?_
    refine WpOps.split 5 rfl (fun hb => ?_) (fun hb => ?_)
    ·
      replace g_1 := Sh.ite_pos hb g_1
      refine WpOps.pn 7 rfl trivial ?_
      refine WpOps.nil ?_
      obtain rfl := Sh.some_inj g_1
      exact ⟨rfl, rfl⟩
    ·
      replace g_1 := Sh.ite_neg hb g_1
      refine WpOps.pn 2 rfl trivial ?_
      obtain ⟨b_2, g_2, g_1⟩ := Sh.bind_some g_1
      refine WpOps.cutB 4 11 (bA b_2) rfl ?_ ?_
      ·
        refine WpOps.pn 1 rfl trivial ?_
        refine WpOps.split 8 rfl (fun hb => ?_) (fun hb => ?_)
        ·
          replace g_2 := Sh.ite_pos hb g_2
          refine WpOps.pn 3 rfl trivial ?_
          refine WpOps.nil ?_
          obtain rfl := Sh.some_inj g_2
          exact ⟨rfl, rfl⟩
        ·
          replace g_2 := Sh.ite_neg hb g_2
          refine WpOps.pn 3 rfl trivial ?_
          refine WpOps.nil ?_
          obtain rfl := Sh.some_inj g_2
          exact ⟨rfl, rfl⟩
      intro env
      refine WpOps.pn 1 rfl trivial ?_
      refine WpOps.nil ?_
      obtain rfl := Sh.some_inj g_1
      exact ⟨rfl, rfl⟩
  intro env
  obtain ⟨b_3, g_3, h⟩ := Sh.bind_some h
  refine WpOps.cutB 8 20 (bA b_3) rfl ?_ ?_
  ·
    refine WpOps.pn 1 rfl trivial ?_
    refine WpOps.split 13 rfl (fun hb => ?_) (fun hb => ?_)
    ·
      replace g_3 := Sh.ite_pos hb g_3
      refine WpOps.pn 7 rfl trivial ?_
      refine WpOps.nil ?_
      obtain rfl := Sh.some_inj g_3
      exact ⟨rfl, rfl⟩
    ·
      replace g_3 := Sh.ite_neg hb g_3
      refine WpOps.pn 2 rfl trivial ?_
      obtain ⟨b_4, g_4, g_3⟩ := Sh.bind_some g_3
      refine WpOps.cutB 4 19 (bA b_4) rfl ?_ ?_
      ·
        refine WpOps.pn 1 rfl trivial ?_
        refine WpOps.split 16 rfl (fun hb => ?_) (fun hb => ?_)
        ·
          replace g_4 := Sh.ite_pos hb g_4
          refine WpOps.pn 3 rfl trivial ?_
          refine WpOps.nil ?_
          obtain rfl := Sh.some_inj g_4
          exact ⟨rfl, rfl⟩
        ·
          replace g_4 := Sh.ite_neg hb g_4
          refine WpOps.pn 3 rfl trivial ?_
          refine WpOps.nil ?_
          obtain rfl := Sh.some_inj g_4
          exact ⟨rfl, rfl⟩
      intro env
      refine WpOps.pn 1 rfl trivial ?_
      refine WpOps.nil ?_
      obtain rfl := Sh.some_inj g_3
      exact ⟨rfl, rfl⟩
  intro env
  refine WpOps.pn 1 rfl trivial ?_
  refine WpOps.nil ?_
  obtain rfl := Sh.some_inj h
  refine WpC.ret ?_
  exact VEnds.ret1 rfl rfl ⟨rfl, hH⟩

theorem w_emendref03_digit {H0 : Heap} {c_1 : UInt8} {r : Bool} (h : emendref03_digit c_1 = some r) : TCall Tryd.prog 100 [(u8A c_1)] H0 (fun v H' => v = (bA r) ∧ H' = H0) noE := by
  refine id (TCall.body Tryd.func100 rfl rfl ?_)
  have hH : Holds H0 [] H0 := rfl
  refine WpC.seqR ?_
  refine WpOps.pn 1 rfl trivial ?_
  refine WpOps.nil ?_
  refine WpC.seqR ?_
  refine WpOps.pn 2 rfl trivial ?_
  obtain ⟨b_1, g_1, h⟩ := Sh.bind_some h
  refine WpOps.cutB 4 8 (bA b_1) rfl ?_ ?_
  ·
    refine WpOps.pn 1 rfl trivial ?_
    refine WpOps.split 5 rfl (fun hb => ?_) (fun hb => ?_)
    ·
      replace g_1 := Sh.ite_pos hb g_1
      refine WpOps.pn 3 rfl trivial ?_
      refine WpOps.nil ?_
      obtain rfl := Sh.some_inj g_1
      exact ⟨rfl, rfl⟩
    ·
      replace g_1 := Sh.ite_neg hb g_1
      refine WpOps.pn 3 rfl trivial ?_
      refine WpOps.nil ?_
      obtain rfl := Sh.some_inj g_1
      exact ⟨rfl, rfl⟩
  intro env
  refine WpOps.pn 1 rfl trivial ?_
  refine WpOps.nil ?_
  obtain rfl := Sh.some_inj h
  refine WpC.ret ?_
  exact VEnds.ret1 rfl rfl ⟨rfl, hH⟩

theorem w_emendref03_word {H0 : Heap} {s_1 : List UInt8} {i_1 : Int} {r : Int} (h : emendref03_word s_1 i_1 = some r) : TCall Tryd.prog 82 [(sA s_1), (iA i_1)] H0 (fun v H' => v = (iA r) ∧ H' = H0) noE := by
  refine id (TCall.body Tryd.func82 rfl rfl ?_)
  have hH : Holds H0 [] H0 := rfl
  refine WpC.seqR ?_
  refine WpOps.pn 1 rfl trivial ?_
  refine WpOps.nil ?_
  refine WpC.seqR ?_
  refine WpOps.pn 1 rfl trivial ?_
  refine WpOps.nil ?_
  refine WpC.seqB (fun x : (Int) × (Unit) => [(5, (iA x.1))]) (fun x H' => emendref03_word_j1 x.1 = some r ∧ Holds H0 [] H') ?_ ?_
  ·
    obtain ⟨o_1, ho_1, hk_1⟩ := Sh.bind_some h
    refine WpC.loopS (emendref03_word_b2 s_1 i_1) (fun (s : Int) (a : Unit) => [(0, (sA s_1)), (1, (iA i_1)), (5, (iA s))]) (fun (s : Int) (a : Unit) H' => Holds H0 [] H') o_1 (0 : Int) () ho_1 ⟨rfl, rfl, rfl, trivial⟩ hH ?_
    rintro n_1 _ st_1 env H' h hd_1 hH
    refine WpC.seq ?_
    refine WpC.seqR ?_
    obtain ⟨c_1, h⟩ := Sh.chk_some h
    refine WpOps.pn 6 rfl c_1 ?_
    obtain ⟨b_1, g_1, h⟩ := Sh.bind_some h
    refine WpOps.cutB 20 31 (bA b_1) rfl ?_ ?_
    ·
      refine WpOps.pn 1 rfl trivial ?_
      refine WpOps.split 12 rfl (fun hb => ?_) (fun hb => ?_)
      ·
        replace g_1 := Sh.ite_pos hb g_1
        obtain ⟨c_2, g_1⟩ := Sh.chk_some g_1
        obtain ⟨ch_1, hch_1, g_1⟩ := Sh.bind_some g_1
        refine WpOps.pn 4 rfl c_2 ?_
        refine WpOps.consE (v := (u8A ch_1)) rfl rfl (Exact.ixs hch_1 rfl rfl rfl rfl) ?_
        obtain ⟨r_1, hr_1, g_1⟩ := Sh.bind_some g_1
        refine WpOps.consE (v := (bA r_1)) rfl rfl (Exact.call rfl rfl rfl (w_emendref03_letter hr_1)) ?_
        obtain ⟨b_2, g_2, g_1⟩ := Sh.bind_some g_1
        refine WpOps.cutB 12 30 (bA b_2) rfl ?_ ?_
        ·
          refine WpOps.pn 1 rfl trivial ?_
          refine WpOps.split 19 rfl (fun hb => ?_) (fun hb => ?_)
          ·
            replace g_2 := Sh.ite_pos hb g_2
            refine WpOps.pn 11 rfl trivial ?_
            refine WpOps.nil ?_
            obtain rfl := Sh.some_inj g_2
            exact ⟨rfl, rfl⟩
          ·
            replace g_2 := Sh.ite_neg hb g_2
            refine WpOps.pn 2 rfl trivial ?_
            obtain ⟨b_3, g_3, g_2⟩ := Sh.bind_some g_2
            refine WpOps.cutB 8 29 (bA b_3) rfl ?_ ?_
            ·
              refine WpOps.pn 1 rfl trivial ?_
              refine WpOps.split 22 rfl (fun hb => ?_) (fun hb => ?_)
              ·
                replace g_3 := Sh.ite_pos hb g_3
                obtain ⟨c_3, g_3⟩ := Sh.chk_some g_3
                obtain ⟨ch_2, hch_2, g_3⟩ := Sh.bind_some g_3
                refine WpOps.pn 4 rfl c_3 ?_
                refine WpOps.consE (v := (u8A ch_2)) rfl rfl (Exact.ixs hch_2 rfl rfl rfl rfl) ?_
                obtain ⟨r_2, hr_2, g_3⟩ := Sh.bind_some g_3
                refine WpOps.consE (v := (bA r_2)) rfl rfl (Exact.call rfl rfl rfl (w_emendref03_digit hr_2)) ?_
                refine WpOps.pn 1 rfl trivial ?_
                refine WpOps.nil ?_
                obtain rfl := Sh.some_inj g_3
                exact ⟨rfl, rfl⟩
              ·
                replace g_3 := Sh.ite_neg hb g_3
                refine WpOps.pn 7 rfl trivial ?_
                refine WpOps.nil ?_
                obtain rfl := Sh.some_inj g_3
                exact ⟨rfl, rfl⟩
            intro env
            refine WpOps.pn 1 rfl trivial ?_
            refine WpOps.nil ?_
            obtain rfl := Sh.some_inj g_2
            exact ⟨rfl, rfl⟩
        intro env
        refine WpOps.pn 1 rfl trivial ?_
        refine WpOps.nil ?_
        obtain rfl := Sh.some_inj g_1
        exact ⟨rfl, rfl⟩
      ·
        replace g_1 := Sh.ite_neg hb g_1
        refine WpOps.pn 19 rfl trivial ?_
        refine WpOps.nil ?_
        obtain rfl := Sh.some_inj g_1
        exact ⟨rfl, rfl⟩
    intro env
    refine WpOps.nil ?_
    refine WpC.condB rfl (fun hb => ?_) (fun hb => ?_)
    ·
      replace h := Sh.ite_pos hb h
      refine WpC.skipD ?_
      refine ⟨_, Heap.le_refl _, ?_⟩
      refine WpC.block ?_
      refine WpC.regionD ?_
      obtain ⟨c_4, h⟩ := Sh.chk_some h
      refine WpOps.pn 3 rfl c_4 ?_
      refine WpOps.nil ?_
      obtain rfl := Sh.some_inj h
      exact ⟨_, (Heap.le_refl _), (n_1 + (1 : Int)), (), rfl, ⟨rfl, rfl, rfl, trivial⟩, hH⟩
    ·
      replace h := Sh.ite_neg hb h
      obtain rfl := Sh.some_inj h
      have e := hd_1 _ rfl
      subst e
      refine WpC.exit ?_
      exact ⟨(n_1, ()), ⟨rfl, trivial⟩, hk_1, hH⟩
  ·
    rintro ⟨n_2, _⟩ env H' ⟨h, hH⟩
    try dsimp only at h
    refine WpC.seqR ?_
    refine WpOps.pn 2 rfl trivial ?_
    refine WpOps.nil ?_
    obtain rfl := Sh.some_inj h
    refine WpC.ret ?_
    exact VEnds.ret1 rfl rfl ⟨rfl, hH⟩

theorem w_emendref03_number {H0 : Heap} {s_1 : List UInt8} {i_1 : Int} {r : Int} (h : emendref03_number s_1 i_1 = some r) : TCall Tryd.prog 83 [(sA s_1), (iA i_1)] H0 (fun v H' => v = (iA r) ∧ H' = H0) noE := by
  refine id (TCall.body Tryd.func83 rfl rfl ?_)
  have hH : Holds H0 [] H0 := rfl
  refine WpC.seqR ?_
  refine WpOps.pn 1 rfl trivial ?_
  refine WpOps.nil ?_
  refine WpC.seqR ?_
  obtain ⟨ch_1, hch_1, h⟩ := Sh.bind_some h
  refine WpOps.pn 2 rfl trivial ?_
  refine WpOps.consE (v := (u8A ch_1)) rfl rfl (Exact.ixs hch_1 rfl rfl rfl rfl) ?_
  obtain ⟨r_1, hr_1, h⟩ := Sh.bind_some h
  refine WpOps.consE (v := (bA r_1)) rfl rfl (Exact.call rfl rfl rfl (w_emendref03_digit hr_1)) ?_
  refine WpOps.pn 1 rfl trivial ?_
  refine WpOps.nil ?_
  refine WpC.seq ?_
  refine WpC.seqR ?_
  refine WpOps.pn 2 rfl trivial ?_
  obtain ⟨b_1, g_1, h⟩ := Sh.bind_some h
  refine WpOps.cutB 21 35 (bA b_1) rfl ?_ ?_
  ·
    refine WpOps.pn 1 rfl trivial ?_
    refine WpOps.split 15 rfl (fun hb => ?_) (fun hb => ?_)
    ·
      replace g_1 := Sh.ite_pos hb g_1
      obtain ⟨ch_2, hch_2, g_1⟩ := Sh.bind_some g_1
      refine WpOps.pn 2 rfl trivial ?_
      refine WpOps.consE (v := (u8A ch_2)) rfl rfl (Exact.ixs hch_2 rfl rfl rfl rfl) ?_
      refine WpOps.pn 1 rfl trivial ?_
      obtain ⟨b_2, g_2, g_1⟩ := Sh.bind_some g_1
      refine WpOps.cutB 7 26 (bA b_2) rfl ?_ ?_
      ·
        refine WpOps.pn 1 rfl trivial ?_
        refine WpOps.split 20 rfl (fun hb => ?_) (fun hb => ?_)
        ·
          replace g_2 := Sh.ite_pos hb g_2
          obtain ⟨c_1, g_2⟩ := Sh.chk_some g_2
          refine WpOps.pn 6 rfl c_1 ?_
          refine WpOps.nil ?_
          obtain rfl := Sh.some_inj g_2
          exact ⟨rfl, rfl⟩
        ·
          replace g_2 := Sh.ite_neg hb g_2
          refine WpOps.pn 6 rfl trivial ?_
          refine WpOps.nil ?_
          obtain rfl := Sh.some_inj g_2
          exact ⟨rfl, rfl⟩
      intro env
      obtain ⟨b_3, g_3, g_1⟩ := Sh.bind_some g_1
      refine WpOps.cutB 7 33 (bA b_3) rfl ?_ ?_
      ·
        refine WpOps.pn 1 rfl trivial ?_
        refine WpOps.split 27 rfl (fun hb => ?_) (fun hb => ?_)
        ·
          replace g_3 := Sh.ite_pos hb g_3
          obtain ⟨c_2, g_3⟩ := Sh.chk_some g_3
          obtain ⟨ch_3, hch_3, g_3⟩ := Sh.bind_some g_3
          refine WpOps.pn 3 rfl c_2 ?_
          refine WpOps.consE (v := (u8A ch_3)) rfl rfl (Exact.ixs hch_3 rfl rfl rfl rfl) ?_
          obtain ⟨r_2, hr_2, g_3⟩ := Sh.bind_some g_3
          refine WpOps.consE (v := (bA r_2)) rfl rfl (Exact.call rfl rfl rfl (w_emendref03_digit hr_2)) ?_
          refine WpOps.pn 1 rfl trivial ?_
          refine WpOps.nil ?_
          obtain rfl := Sh.some_inj g_3
          exact ⟨rfl, rfl⟩
        ·
          replace g_3 := Sh.ite_neg hb g_3
          refine WpOps.pn 6 rfl trivial ?_
          refine WpOps.nil ?_
          obtain rfl := Sh.some_inj g_3
          exact ⟨rfl, rfl⟩
      intro env
      refine WpOps.pn 2 rfl trivial ?_
      refine WpOps.nil ?_
      obtain rfl := Sh.some_inj g_1
      exact ⟨rfl, rfl⟩
    ·
      replace g_1 := Sh.ite_neg hb g_1
      refine WpOps.pn 20 rfl trivial ?_
      refine WpOps.nil ?_
      obtain rfl := Sh.some_inj g_1
      exact ⟨rfl, rfl⟩
  intro env
  refine WpOps.nil ?_
  refine WpC.condB rfl (fun hb => ?_) (fun hb => ?_)
  ·
    replace h := Sh.ite_pos hb h
    refine WpC.seqR ?_
    refine WpOps.pn 1 rfl trivial ?_
    refine WpOps.nil ?_
    obtain rfl := Sh.some_inj h
    refine WpC.ret ?_
    exact VEnds.ret1 rfl rfl ⟨rfl, hH⟩
  ·
    replace h := Sh.ite_neg hb h
    refine WpC.skipD ?_
    refine ⟨_, Heap.le_refl _, ?_⟩
    refine WpC.seqR ?_
    refine WpOps.pn 1 rfl trivial ?_
    refine WpOps.nil ?_
    refine WpC.seqB (fun x : (Int) × (Unit) => [(6, (iA x.1))]) (fun x H' => emendref03_number_j1 x.1 = some r ∧ Holds H0 [] H') ?_ ?_
    ·
      obtain ⟨o_1, ho_1, hk_1⟩ := Sh.bind_some h
      refine WpC.loopS (emendref03_number_b2 s_1 i_1) (fun (s : Int) (a : Unit) => [(0, (sA s_1)), (1, (iA i_1)), (6, (iA s))]) (fun (s : Int) (a : Unit) H' => Holds H0 [] H') o_1 (1 : Int) () ho_1 ⟨rfl, rfl, rfl, trivial⟩ hH ?_
      rintro n_1 _ st_1 env H' h hd_1 hH
      refine WpC.seq ?_
      refine WpC.seqR ?_
      obtain ⟨c_3, h⟩ := Sh.chk_some h
      refine WpOps.pn 6 rfl c_3 ?_
      refine WpOps.nil ?_
      refine WpC.condB rfl (fun hb => ?_) (fun hb => ?_)
      ·
        replace h := Sh.ite_pos hb h
        refine WpC.skipD ?_
        refine ⟨_, Heap.le_refl _, ?_⟩
        refine WpC.block ?_
        refine WpC.seqR ?_
        obtain ⟨c_4, h⟩ := Sh.chk_some h
        obtain ⟨ch_4, hch_4, h⟩ := Sh.bind_some h
        refine WpOps.pn 4 rfl c_4 ?_
        refine WpOps.consE (v := (u8A ch_4)) rfl rfl (Exact.ixs hch_4 rfl rfl rfl rfl) ?_
        refine WpOps.pn 1 rfl trivial ?_
        refine WpOps.nil ?_
        refine WpC.seqR ?_
        obtain ⟨c_5, h⟩ := Sh.chk_some h
        obtain ⟨c_6, h⟩ := Sh.chk_some h
        refine WpOps.pn 7 rfl ⟨c_6, c_5⟩ ?_
        obtain ⟨b_4, g_4, h⟩ := Sh.bind_some h
        refine WpOps.cutB 18 71 (bA b_4) rfl ?_ ?_
        ·
          refine WpOps.pn 1 rfl trivial ?_
          refine WpOps.split 54 rfl (fun hb => ?_) (fun hb => ?_)
          ·
            replace g_4 := Sh.ite_pos hb g_4
            obtain ⟨c_7, g_4⟩ := Sh.chk_some g_4
            obtain ⟨c_8, g_4⟩ := Sh.chk_some g_4
            obtain ⟨ch_5, hch_5, g_4⟩ := Sh.bind_some g_4
            refine WpOps.pn 5 rfl ⟨c_8, c_7⟩ ?_
            refine WpOps.consE (v := (u8A ch_5)) rfl rfl (Exact.ixs hch_5 rfl rfl rfl rfl) ?_
            refine WpOps.pn 1 rfl trivial ?_
            obtain ⟨b_5, g_5, g_4⟩ := Sh.bind_some g_4
            refine WpOps.cutB 9 70 (bA b_5) rfl ?_ ?_
            ·
              refine WpOps.pn 1 rfl trivial ?_
              refine WpOps.split 62 rfl (fun hb => ?_) (fun hb => ?_)
              ·
                replace g_5 := Sh.ite_pos hb g_5
                refine WpOps.pn 8 rfl trivial ?_
                refine WpOps.nil ?_
                obtain rfl := Sh.some_inj g_5
                exact ⟨rfl, rfl⟩
              ·
                replace g_5 := Sh.ite_neg hb g_5
                obtain ⟨c_9, g_5⟩ := Sh.chk_some g_5
                obtain ⟨c_10, g_5⟩ := Sh.chk_some g_5
                obtain ⟨ch_6, hch_6, g_5⟩ := Sh.bind_some g_5
                refine WpOps.pn 5 rfl ⟨c_10, c_9⟩ ?_
                refine WpOps.consE (v := (u8A ch_6)) rfl rfl (Exact.ixs hch_6 rfl rfl rfl rfl) ?_
                refine WpOps.pn 2 rfl trivial ?_
                refine WpOps.nil ?_
                obtain rfl := Sh.some_inj g_5
                exact ⟨rfl, rfl⟩
            intro env
            refine WpOps.pn 1 rfl trivial ?_
            refine WpOps.nil ?_
            obtain rfl := Sh.some_inj g_4
            exact ⟨rfl, rfl⟩
          ·
            replace g_4 := Sh.ite_neg hb g_4
            refine WpOps.pn 17 rfl trivial ?_
            refine WpOps.nil ?_
            obtain rfl := Sh.some_inj g_4
            exact ⟨rfl, rfl⟩
        intro env
        refine WpOps.pn 1 rfl trivial ?_
        refine WpOps.nil ?_
        refine WpC.seq ?_
        refine WpC.seqR ?_
        refine WpOps.pn 2 rfl trivial ?_
        obtain ⟨b_6, g_6, h⟩ := Sh.bind_some h
        refine WpOps.cutB 4 77 (bA b_6) rfl ?_ ?_
        ·
          refine WpOps.pn 1 rfl trivial ?_
          refine WpOps.split 74 rfl (fun hb => ?_) (fun hb => ?_)
          ·
            replace g_6 := Sh.ite_pos hb g_6
            refine WpOps.pn 3 rfl trivial ?_
            refine WpOps.nil ?_
            obtain rfl := Sh.some_inj g_6
            exact ⟨rfl, rfl⟩
          ·
            replace g_6 := Sh.ite_neg hb g_6
            refine WpOps.pn 3 rfl trivial ?_
            refine WpOps.nil ?_
            obtain rfl := Sh.some_inj g_6
            exact ⟨rfl, rfl⟩
        intro env
        obtain ⟨b_7, g_7, h⟩ := Sh.bind_some h
        refine WpOps.cutB 4 81 (bA b_7) rfl ?_ ?_
        ·
          refine WpOps.pn 1 rfl trivial ?_
          refine WpOps.split 78 rfl (fun hb => ?_) (fun hb => ?_)
          ·
            replace g_7 := Sh.ite_pos hb g_7
            refine WpOps.pn 3 rfl trivial ?_
            refine WpOps.nil ?_
            obtain rfl := Sh.some_inj g_7
            exact ⟨rfl, rfl⟩
          ·
            replace g_7 := Sh.ite_neg hb g_7
            refine WpOps.pn 3 rfl trivial ?_
            refine WpOps.nil ?_
            obtain rfl := Sh.some_inj g_7
            exact ⟨rfl, rfl⟩
        intro env
        obtain ⟨b_8, g_8, h⟩ := Sh.bind_some h
        refine WpOps.cutB 4 85 (bA b_8) rfl ?_ ?_
        ·
          refine WpOps.pn 1 rfl trivial ?_
          refine WpOps.split 82 rfl (fun hb => ?_) (fun hb => ?_)
          ·
            replace g_8 := Sh.ite_pos hb g_8
            refine WpOps.pn 3 rfl trivial ?_
            refine WpOps.nil ?_
            obtain rfl := Sh.some_inj g_8
            exact ⟨rfl, rfl⟩
          ·
            replace g_8 := Sh.ite_neg hb g_8
            refine WpOps.pn 3 rfl trivial ?_
            refine WpOps.nil ?_
            obtain rfl := Sh.some_inj g_8
            exact ⟨rfl, rfl⟩
        intro env
        obtain ⟨b_9, g_9, h⟩ := Sh.bind_some h
        refine WpOps.cutB 3 88 (bA b_9) rfl ?_ ?_
        ·
          refine WpOps.pn 1 rfl trivial ?_
          refine WpOps.split 86 rfl (fun hb => ?_) (fun hb => ?_)
          ·
            replace g_9 := Sh.ite_pos hb g_9
            refine WpOps.pn 2 rfl trivial ?_
            refine WpOps.nil ?_
            obtain rfl := Sh.some_inj g_9
            exact ⟨rfl, rfl⟩
          ·
            replace g_9 := Sh.ite_neg hb g_9
            refine WpOps.pn 2 rfl trivial ?_
            refine WpOps.nil ?_
            obtain rfl := Sh.some_inj g_9
            exact ⟨rfl, rfl⟩
        intro env
        refine WpOps.nil ?_
        refine WpC.condB rfl (fun hb => ?_) (fun hb => ?_)
        ·
          replace h := Sh.ite_pos hb h
          refine WpC.seqR ?_
          obtain ⟨c_11, h⟩ := Sh.chk_some h
          refine WpOps.pn 3 rfl c_11 ?_
          refine WpOps.nil ?_
          refine WpC.exitD ?_
          obtain rfl := Sh.some_inj h
          exact ⟨_, (Heap.le_refl _), (n_1 + (2 : Int)), (), rfl, ⟨rfl, rfl, rfl, trivial⟩, hH⟩
        ·
          replace h := Sh.ite_neg hb h
          refine WpC.skipD ?_
          refine ⟨_, Heap.le_refl _, ?_⟩
          refine WpC.seq ?_
          refine WpC.seqR ?_
          obtain ⟨r_3, hr_3, h⟩ := Sh.bind_some h
          refine WpOps.pn 1 rfl trivial ?_
          refine WpOps.consE (v := (bA r_3)) rfl rfl (Exact.call rfl rfl rfl (w_emendref03_letter hr_3)) ?_
          refine WpOps.pn 1 rfl trivial ?_
          obtain ⟨b_10, g_10, h⟩ := Sh.bind_some h
          refine WpOps.cutB 5 98 (bA b_10) rfl ?_ ?_
          ·
            refine WpOps.pn 1 rfl trivial ?_
            refine WpOps.split 94 rfl (fun hb => ?_) (fun hb => ?_)
            ·
              replace g_10 := Sh.ite_pos hb g_10
              obtain ⟨r_4, hr_4, g_10⟩ := Sh.bind_some g_10
              refine WpOps.pn 1 rfl trivial ?_
              refine WpOps.consE (v := (bA r_4)) rfl rfl (Exact.call rfl rfl rfl (w_emendref03_digit hr_4)) ?_
              refine WpOps.pn 2 rfl trivial ?_
              refine WpOps.nil ?_
              obtain rfl := Sh.some_inj g_10
              exact ⟨rfl, rfl⟩
            ·
              replace g_10 := Sh.ite_neg hb g_10
              refine WpOps.pn 4 rfl trivial ?_
              refine WpOps.nil ?_
              obtain rfl := Sh.some_inj g_10
              exact ⟨rfl, rfl⟩
          intro env
          obtain ⟨b_11, g_11, h⟩ := Sh.bind_some h
          refine WpOps.cutB 4 102 (bA b_11) rfl ?_ ?_
          ·
            refine WpOps.pn 1 rfl trivial ?_
            refine WpOps.split 99 rfl (fun hb => ?_) (fun hb => ?_)
            ·
              replace g_11 := Sh.ite_pos hb g_11
              refine WpOps.pn 3 rfl trivial ?_
              refine WpOps.nil ?_
              obtain rfl := Sh.some_inj g_11
              exact ⟨rfl, rfl⟩
            ·
              replace g_11 := Sh.ite_neg hb g_11
              refine WpOps.pn 3 rfl trivial ?_
              refine WpOps.nil ?_
              obtain rfl := Sh.some_inj g_11
              exact ⟨rfl, rfl⟩
          intro env
          refine WpOps.nil ?_
          refine WpC.condB rfl (fun hb => ?_) (fun hb => ?_)
          ·
            replace h := Sh.ite_pos hb h
            obtain rfl := Sh.some_inj h
            have e := hd_1 _ rfl
            subst e
            refine WpC.exit ?_
            exact ⟨(n_1, ()), ⟨rfl, trivial⟩, hk_1, hH⟩
          ·
            replace h := Sh.ite_neg hb h
            refine WpC.skipD ?_
            refine ⟨_, Heap.le_refl _, ?_⟩
            refine WpC.regionD ?_
            obtain ⟨c_12, h⟩ := Sh.chk_some h
            refine WpOps.pn 3 rfl c_12 ?_
            refine WpOps.nil ?_
            obtain rfl := Sh.some_inj h
            exact ⟨_, (Heap.le_refl _), (n_1 + (1 : Int)), (), rfl, ⟨rfl, rfl, rfl, trivial⟩, hH⟩
      ·
        replace h := Sh.ite_neg hb h
        obtain rfl := Sh.some_inj h
        have e := hd_1 _ rfl
        subst e
        refine WpC.exit ?_
        exact ⟨(n_1, ()), ⟨rfl, trivial⟩, hk_1, hH⟩
    ·
      rintro ⟨n_2, _⟩ env H' ⟨h, hH⟩
      try dsimp only at h
      refine WpC.seqR ?_
      refine WpOps.pn 2 rfl trivial ?_
      refine WpOps.nil ?_
      obtain rfl := Sh.some_inj h
      refine WpC.ret ?_
      exact VEnds.ret1 rfl rfl ⟨rfl, hH⟩

theorem w_emendref03_quoted {H0 : Heap} {s_1 : List UInt8} {i_1 : Int} {quote_1 : UInt8} {r : Int} (h : emendref03_quoted s_1 i_1 quote_1 = some r) : TCall Tryd.prog 84 [(sA s_1), (iA i_1), (u8A quote_1)] H0 (fun v H' => v = (iA r) ∧ H' = H0) noE := by
  refine id (TCall.body Tryd.func84 rfl rfl ?_)
  have hH : Holds H0 [] H0 := rfl
  refine WpC.seqR ?_
  refine WpOps.pn 1 rfl trivial ?_
  refine WpOps.nil ?_
  refine WpC.seq ?_
  refine WpC.seqR ?_
  obtain ⟨ch_1, hch_1, h⟩ := Sh.bind_some h
  refine WpOps.pn 2 rfl trivial ?_
  refine WpOps.consE (v := (u8A ch_1)) rfl rfl (Exact.ixs hch_1 rfl rfl rfl rfl) ?_
  refine WpOps.pn 2 rfl trivial ?_
  refine WpOps.nil ?_
  refine WpC.condB rfl (fun hb => ?_) (fun hb => ?_)
  ·
    replace h := Sh.ite_pos hb h
    refine WpC.seqR ?_
    refine WpOps.pn 1 rfl trivial ?_
    refine WpOps.nil ?_
    obtain rfl := Sh.some_inj h
    refine WpC.ret ?_
    exact VEnds.ret1 rfl rfl ⟨rfl, hH⟩
  ·
    replace h := Sh.ite_neg hb h
    refine WpC.skipD ?_
    refine ⟨_, Heap.le_refl _, ?_⟩
    refine WpC.seqR ?_
    refine WpOps.pn 1 rfl trivial ?_
    refine WpOps.nil ?_
    refine WpC.seqB (fun x : (Unit) × (Unit) => []) (fun x H' => emendref03_quoted_j1 x.1 = some r ∧ Holds H0 [] H') ?_ ?_
    ·
      obtain ⟨o_1, ho_1, hk_1⟩ := Sh.bind_some h
      refine WpC.loopS (emendref03_quoted_b2 s_1 i_1 quote_1) (fun (s : Int) (a : Unit) => [(0, (sA s_1)), (1, (iA i_1)), (2, (u8A quote_1)), (7, (iA s))]) (fun (s : Int) (a : Unit) H' => Holds H0 [] H') o_1 (1 : Int) () ho_1 ⟨rfl, rfl, rfl, rfl, trivial⟩ hH ?_
      rintro n_1 _ st_1 env H' h hd_1 hH
      refine WpC.seq ?_
      refine WpC.seqR ?_
      obtain ⟨c_1, h⟩ := Sh.chk_some h
      refine WpOps.pn 6 rfl c_1 ?_
      obtain ⟨b_1, g_1, h⟩ := Sh.bind_some h
      refine WpOps.cutB 8 26 (bA b_1) rfl ?_ ?_
      ·
        refine WpOps.pn 1 rfl trivial ?_
        refine WpOps.split 19 rfl (fun hb => ?_) (fun hb => ?_)
        ·
          replace g_1 := Sh.ite_pos hb g_1
          obtain ⟨c_2, g_1⟩ := Sh.chk_some g_1
          obtain ⟨ch_2, hch_2, g_1⟩ := Sh.bind_some g_1
          refine WpOps.pn 4 rfl c_2 ?_
          refine WpOps.consE (v := (u8A ch_2)) rfl rfl (Exact.ixs hch_2 rfl rfl rfl rfl) ?_
          refine WpOps.pn 2 rfl trivial ?_
          refine WpOps.nil ?_
          obtain rfl := Sh.some_inj g_1
          exact ⟨rfl, rfl⟩
        ·
          replace g_1 := Sh.ite_neg hb g_1
          refine WpOps.pn 7 rfl trivial ?_
          refine WpOps.nil ?_
          obtain rfl := Sh.some_inj g_1
          exact ⟨rfl, rfl⟩
      intro env
      refine WpOps.nil ?_
      refine WpC.condB rfl (fun hb => ?_) (fun hb => ?_)
      ·
        replace h := Sh.ite_pos hb h
        refine WpC.skipD ?_
        refine ⟨_, Heap.le_refl _, ?_⟩
        refine WpC.block ?_
        refine WpC.seq ?_
        refine WpC.seqR ?_
        obtain ⟨c_3, h⟩ := Sh.chk_some h
        obtain ⟨ch_3, hch_3, h⟩ := Sh.bind_some h
        refine WpOps.pn 4 rfl c_3 ?_
        refine WpOps.consE (v := (u8A ch_3)) rfl rfl (Exact.ixs hch_3 rfl rfl rfl rfl) ?_
        refine WpOps.pn 2 rfl trivial ?_
        refine WpOps.nil ?_
        refine WpC.condB rfl (fun hb => ?_) (fun hb => ?_)
        ·
          replace h := Sh.ite_pos hb h
          refine WpC.seq ?_
          refine WpC.seqR ?_
          refine WpOps.pn 2 rfl trivial ?_
          obtain ⟨b_2, g_2, h⟩ := Sh.bind_some h
          refine WpOps.cutB 4 39 (bA b_2) rfl ?_ ?_
          ·
            refine WpOps.pn 1 rfl trivial ?_
            refine WpOps.split 36 rfl (fun hb => ?_) (fun hb => ?_)
            ·
              replace g_2 := Sh.ite_pos hb g_2
              refine WpOps.pn 3 rfl trivial ?_
              refine WpOps.nil ?_
              obtain rfl := Sh.some_inj g_2
              exact ⟨rfl, rfl⟩
            ·
              replace g_2 := Sh.ite_neg hb g_2
              refine WpOps.pn 3 rfl trivial ?_
              refine WpOps.nil ?_
              obtain rfl := Sh.some_inj g_2
              exact ⟨rfl, rfl⟩
          intro env
          refine WpOps.nil ?_
          refine WpC.condB rfl (fun hb => ?_) (fun hb => ?_)
          ·
            replace h := Sh.ite_pos hb h
            refine WpC.seqR ?_
            refine WpOps.pn 1 rfl trivial ?_
            refine WpOps.nil ?_
            obtain rfl := Sh.some_inj h
            have e := hd_1 _ rfl
            subst e
            have h := hk_1
            obtain rfl := Sh.some_inj h
            refine WpC.ret ?_
            exact VEnds.ret1 rfl rfl ⟨rfl, hH⟩
          ·
            replace h := Sh.ite_neg hb h
            refine WpC.skipD ?_
            refine ⟨_, Heap.le_refl _, ?_⟩
            refine WpC.seqR ?_
            obtain ⟨c_4, h⟩ := Sh.chk_some h
            refine WpOps.pn 3 rfl c_4 ?_
            refine WpOps.nil ?_
            obtain rfl := Sh.some_inj h
            have e := hd_1 _ rfl
            subst e
            have h := hk_1
            obtain rfl := Sh.some_inj h
            refine WpC.ret ?_
            exact VEnds.ret1 rfl rfl ⟨rfl, hH⟩
        ·
          replace h := Sh.ite_neg hb h
          refine WpC.skipD ?_
          refine ⟨_, Heap.le_refl _, ?_⟩
          refine WpC.seq ?_
          refine WpC.seqR ?_
          obtain ⟨c_5, h⟩ := Sh.chk_some h
          obtain ⟨ch_4, hch_4, h⟩ := Sh.bind_some h
          refine WpOps.pn 4 rfl c_5 ?_
          refine WpOps.consE (v := (u8A ch_4)) rfl rfl (Exact.ixs hch_4 rfl rfl rfl rfl) ?_
          refine WpOps.pn 1 rfl trivial ?_
          refine WpOps.nil ?_
          refine WpC.condB rfl (fun hb => ?_) (fun hb => ?_)
          ·
            replace h := Sh.ite_pos hb h
            refine WpC.seqR ?_
            obtain ⟨c_6, h⟩ := Sh.chk_some h
            refine WpOps.pn 3 rfl c_6 ?_
            refine WpOps.nil ?_
            refine WpC.seqR ?_
            obtain ⟨c_7, h⟩ := Sh.chk_some h
            refine WpOps.pn 6 rfl c_7 ?_
            obtain ⟨b_3, g_3, h⟩ := Sh.bind_some h
            refine WpOps.cutB 8 63 (bA b_3) rfl ?_ ?_
            ·
              refine WpOps.pn 1 rfl trivial ?_
              refine WpOps.split 56 rfl (fun hb => ?_) (fun hb => ?_)
              ·
                replace g_3 := Sh.ite_pos hb g_3
                refine WpOps.pn 7 rfl trivial ?_
                refine WpOps.nil ?_
                obtain rfl := Sh.some_inj g_3
                exact ⟨rfl, rfl⟩
              ·
                replace g_3 := Sh.ite_neg hb g_3
                obtain ⟨c_8, g_3⟩ := Sh.chk_some g_3
                obtain ⟨ch_5, hch_5, g_3⟩ := Sh.bind_some g_3
                refine WpOps.pn 4 rfl c_8 ?_
                refine WpOps.consE (v := (u8A ch_5)) rfl rfl (Exact.ixs hch_5 rfl rfl rfl rfl) ?_
                refine WpOps.pn 2 rfl trivial ?_
                refine WpOps.nil ?_
                obtain rfl := Sh.some_inj g_3
                exact ⟨rfl, rfl⟩
            intro env
            refine WpOps.nil ?_
            refine WpC.condB rfl (fun hb => ?_) (fun hb => ?_)
            ·
              replace h := Sh.ite_pos hb h
              refine WpC.seqR ?_
              refine WpOps.pn 1 rfl trivial ?_
              refine WpOps.nil ?_
              obtain rfl := Sh.some_inj h
              have e := hd_1 _ rfl
              subst e
              have h := hk_1
              obtain rfl := Sh.some_inj h
              refine WpC.ret ?_
              exact VEnds.ret1 rfl rfl ⟨rfl, hH⟩
            ·
              replace h := Sh.ite_neg hb h
              refine WpC.skipD ?_
              refine ⟨_, Heap.le_refl _, ?_⟩
              refine WpC.regionD ?_
              obtain ⟨c_9, h⟩ := Sh.chk_some h
              refine WpOps.pn 3 rfl c_9 ?_
              refine WpOps.nil ?_
              obtain rfl := Sh.some_inj h
              exact ⟨_, (Heap.le_refl _), ((n_1 + (1 : Int)) + (1 : Int)), (), rfl, ⟨rfl, rfl, rfl, rfl, trivial⟩, hH⟩
          ·
            replace h := Sh.ite_neg hb h
            refine WpC.skipD ?_
            refine ⟨_, Heap.le_refl _, ?_⟩
            refine WpC.regionD ?_
            obtain ⟨c_10, h⟩ := Sh.chk_some h
            refine WpOps.pn 3 rfl c_10 ?_
            refine WpOps.nil ?_
            obtain rfl := Sh.some_inj h
            exact ⟨_, (Heap.le_refl _), (n_1 + (1 : Int)), (), rfl, ⟨rfl, rfl, rfl, rfl, trivial⟩, hH⟩
      ·
        replace h := Sh.ite_neg hb h
        obtain rfl := Sh.some_inj h
        have e := hd_1 _ rfl
        subst e
        refine WpC.exit ?_
        exact ⟨((), ()), trivial, hk_1, hH⟩
    ·
      rintro ⟨_, _⟩ env H' ⟨h, hH⟩
      try dsimp only at h
      refine WpC.seqR ?_
      refine WpOps.pn 1 rfl trivial ?_
      refine WpOps.nil ?_
      obtain rfl := Sh.some_inj h
      refine WpC.ret ?_
      exact VEnds.ret1 rfl rfl ⟨rfl, hH⟩

theorem w_emendref03_sign {H0 : Heap} {s_1 : List UInt8} {i_1 : Int} {r : Int} (h : emendref03_sign s_1 i_1 = some r) : TCall Tryd.prog 85 [(sA s_1), (iA i_1)] H0 (fun v H' => v = (iA r) ∧ H' = H0) noE := by
  refine id (TCall.body Tryd.func85 rfl rfl ?_)
  have hH : Holds H0 [] H0 := rfl
  refine WpC.seqR ?_
  refine WpOps.pn 1 rfl trivial ?_
  refine WpOps.nil ?_
  refine WpC.seqR ?_
  refine WpOps.consE (v := (AV.rows 1 (List.map cS ([([46, 46, 46] : List UInt8), ([60, 60, 61] : List UInt8), ([62, 62, 61] : List UInt8)] : List (List UInt8))))) rfl rfl (Exact.litSlice rfl (by kernel_rfl)) ?_
  refine WpOps.pn 1 rfl trivial ?_
  refine WpOps.nil ?_
  refine WpC.seqR ?_
  refine WpOps.consE (v := (AV.rows 1 (List.map cS emendref03_sign_l0))) rfl rfl (Exact.litSlice rfl (by kernel_rfl)) ?_
  refine WpOps.pn 1 rfl trivial ?_
  refine WpOps.nil ?_
  refine WpC.seqR ?_
  refine WpOps.pn 1 rfl trivial ?_
  refine WpOps.nil ?_
  refine WpC.seq ?_
  refine WpC.seqR ?_
  refine WpOps.pn 1 rfl trivial ?_
  refine WpOps.nil ?_
  refine WpC.blockK (fun x : (Unit) × (Unit) => [(0, (sA s_1)), (1, (iA i_1)), (6, (AV.rows 1 (List.map cS emendref03_sign_l0))), (7, (sA emendref03_sign_l1))]) (fun x H' => (emendref03_sign_j1 s_1 i_1) x.1 = some r ∧ Holds H0 [] H') ?_ ?_
  ·
    obtain ⟨o_1, ho_1, hk_1⟩ := Sh.bind_some h
    refine WpC.loopS (emendref03_sign_b2 s_1 i_1) (fun (s : Int) (a : Unit) => [(0, (sA s_1)), (1, (iA i_1)), (5, (AV.rows 1 (List.map cS ([([46, 46, 46] : List UInt8), ([60, 60, 61] : List UInt8), ([62, 62, 61] : List UInt8)] : List (List UInt8))))), (6, (AV.rows 1 (List.map cS emendref03_sign_l0))), (7, (sA emendref03_sign_l1)), (8, (iA s))]) (fun (s : Int) (a : Unit) H' => Holds H0 [] H') o_1 (0 : Int) () ho_1 ⟨rfl, rfl, rfl, rfl, rfl, rfl, trivial⟩ hH ?_
    rintro k_1 _ st_1 env H' h hd_1 hH
    refine WpC.seq ?_
    refine WpC.seqR ?_
    refine WpOps.pn 3 rfl trivial ?_
    refine WpOps.at 17 (len_map _ _) ?_
    refine WpOps.pn 1 rfl trivial ?_
    refine WpOps.nil ?_
    refine WpC.condB rfl (fun hb => ?_) (fun hb => ?_)
    ·
      replace h := Sh.ite_pos hb h
      refine WpC.skipD ?_
      refine ⟨_, Heap.le_refl _, ?_⟩
      refine WpC.seq ?_
      refine WpC.block ?_
      refine WpC.seqR ?_
      obtain ⟨y_1, hy_1, h⟩ := Sh.bind_some h
      refine WpOps.pn 4 rfl trivial ?_
      refine WpOps.consE (v := (.rop (cS y_1))) rfl rfl (Exact.ixr cS hy_1 rfl rfl rfl rfl (by kernel_rfl) (by decide)) ?_
      refine WpOps.consE (v := (sA y_1)) rfl rfl (Exact.load_rop rfl rfl rfl) ?_
      obtain ⟨r_1, hr_1, h⟩ := Sh.bind_some h
      refine WpOps.consE (v := (bA r_1)) rfl rfl (Exact.call rfl rfl rfl (w_emendref03_is hr_1)) ?_
      refine WpOps.pn 1 rfl trivial ?_
      refine WpOps.nil ?_
      refine WpC.seqR ?_
      refine WpOps.pn 1 rfl trivial ?_
      refine WpOps.nil ?_
      refine WpC.condB rfl (fun hb => ?_) (fun hb => ?_)
      ·
        replace h := Sh.ite_pos hb h
        refine WpC.seqR ?_
        refine WpOps.pn 1 rfl trivial ?_
        refine WpOps.nil ?_
        obtain rfl := Sh.some_inj h
        have e := hd_1 _ rfl
        subst e
        have h := hk_1
        obtain rfl := Sh.some_inj h
        refine WpC.ret ?_
        exact VEnds.ret1 rfl rfl ⟨rfl, hH⟩
      ·
        replace h := Sh.ite_neg hb h
        refine WpC.skipD ?_
        refine ⟨_, Heap.le_refl _, ?_⟩
        refine WpC.regionD ?_
        obtain ⟨c_1, h⟩ := Sh.chk_some h
        refine WpOps.pn 3 rfl c_1 ?_
        refine WpOps.nil ?_
        obtain rfl := Sh.some_inj h
        exact ⟨_, (Heap.le_refl _), (k_1 + (1 : Int)), (), rfl, ⟨rfl, rfl, rfl, rfl, rfl, rfl, trivial⟩, hH⟩
    ·
      replace h := Sh.ite_neg hb h
      obtain rfl := Sh.some_inj h
      have e := hd_1 _ rfl
      subst e
      refine WpC.exit ?_
      exact ⟨((), ()), ⟨rfl, rfl, rfl, rfl, trivial⟩, hk_1, hH⟩
  ·
    rintro ⟨_, _⟩ env H' ⟨h, hH⟩
    try dsimp only at h
    refine ⟨_, Heap.le_refl _, ?_⟩
    refine WpC.seq ?_
    refine WpC.seqR ?_
    refine WpOps.pn 1 rfl trivial ?_
    refine WpOps.nil ?_
    refine WpC.blockK (fun x : (Unit) × (Unit) => [(0, (sA s_1)), (1, (iA i_1)), (7, (sA emendref03_sign_l1))]) (fun x H' => (emendref03_sign_j3 s_1 i_1) x.1 = some r ∧ Holds H0 [] H') ?_ ?_
    ·
      obtain ⟨o_2, ho_2, hk_2⟩ := Sh.bind_some h
      refine WpC.loopS (emendref03_sign_b4 s_1 i_1) (fun (s : Int) (a : Unit) => [(0, (sA s_1)), (1, (iA i_1)), (6, (AV.rows 1 (List.map cS emendref03_sign_l0))), (7, (sA emendref03_sign_l1)), (10, (iA s))]) (fun (s : Int) (a : Unit) H' => Holds H0 [] H') o_2 (0 : Int) () ho_2 ⟨rfl, rfl, rfl, rfl, rfl, trivial⟩ hH ?_
      rintro k_2 _ st_2 env H' h hd_2 hH
      refine WpC.seq ?_
      refine WpC.seqR ?_
      refine WpOps.pn 3 rfl trivial ?_
      refine WpOps.at 31 (len_map _ _) ?_
      refine WpOps.pn 1 rfl trivial ?_
      refine WpOps.nil ?_
      refine WpC.condB rfl (fun hb => ?_) (fun hb => ?_)
      ·
        replace h := Sh.ite_pos hb h
        refine WpC.skipD ?_
        refine ⟨_, Heap.le_refl _, ?_⟩
        refine WpC.seq ?_
        refine WpC.block ?_
        refine WpC.seqR ?_
        obtain ⟨y_2, hy_2, h⟩ := Sh.bind_some h
        refine WpOps.pn 4 rfl trivial ?_
        refine WpOps.consE (v := (.rop (cS y_2))) rfl rfl (Exact.ixr cS hy_2 rfl rfl rfl rfl (by kernel_rfl) (by decide)) ?_
        refine WpOps.consE (v := (sA y_2)) rfl rfl (Exact.load_rop rfl rfl rfl) ?_
        obtain ⟨r_2, hr_2, h⟩ := Sh.bind_some h
        refine WpOps.consE (v := (bA r_2)) rfl rfl (Exact.call rfl rfl rfl (w_emendref03_is hr_2)) ?_
        refine WpOps.pn 1 rfl trivial ?_
        refine WpOps.nil ?_
        refine WpC.seqR ?_
        refine WpOps.pn 1 rfl trivial ?_
        refine WpOps.nil ?_
        refine WpC.condB rfl (fun hb => ?_) (fun hb => ?_)
        ·
          replace h := Sh.ite_pos hb h
          refine WpC.seqR ?_
          refine WpOps.pn 1 rfl trivial ?_
          refine WpOps.nil ?_
          obtain rfl := Sh.some_inj h
          have e := hd_2 _ rfl
          subst e
          have h := hk_2
          obtain rfl := Sh.some_inj h
          refine WpC.ret ?_
          exact VEnds.ret1 rfl rfl ⟨rfl, hH⟩
        ·
          replace h := Sh.ite_neg hb h
          refine WpC.skipD ?_
          refine ⟨_, Heap.le_refl _, ?_⟩
          refine WpC.regionD ?_
          obtain ⟨c_2, h⟩ := Sh.chk_some h
          refine WpOps.pn 3 rfl c_2 ?_
          refine WpOps.nil ?_
          obtain rfl := Sh.some_inj h
          exact ⟨_, (Heap.le_refl _), (k_2 + (1 : Int)), (), rfl, ⟨rfl, rfl, rfl, rfl, rfl, trivial⟩, hH⟩
      ·
        replace h := Sh.ite_neg hb h
        obtain rfl := Sh.some_inj h
        have e := hd_2 _ rfl
        subst e
        refine WpC.exit ?_
        exact ⟨((), ()), ⟨rfl, rfl, rfl, trivial⟩, hk_2, hH⟩
    ·
      rintro ⟨_, _⟩ env H' ⟨h, hH⟩
      try dsimp only at h
      refine ⟨_, Heap.le_refl _, ?_⟩
      refine WpC.seq ?_
      refine WpC.seqR ?_
      refine WpOps.pn 1 rfl trivial ?_
      refine WpOps.nil ?_
      refine WpC.blockK (fun x : (Unit) × (Unit) => []) (fun x H' => emendref03_sign_j5 x.1 = some r ∧ Holds H0 [] H') ?_ ?_
      ·
        obtain ⟨o_3, ho_3, hk_3⟩ := Sh.bind_some h
        refine WpC.loopS (emendref03_sign_b6 s_1 i_1) (fun (s : Int) (a : Unit) => [(0, (sA s_1)), (1, (iA i_1)), (7, (sA emendref03_sign_l1)), (12, (iA s))]) (fun (s : Int) (a : Unit) H' => Holds H0 [] H') o_3 (0 : Int) () ho_3 ⟨rfl, rfl, rfl, rfl, trivial⟩ hH ?_
        rintro k_3 _ st_3 env H' h hd_3 hH
        refine WpC.seq ?_
        refine WpC.seqR ?_
        refine WpOps.pn 4 rfl trivial ?_
        refine WpOps.nil ?_
        refine WpC.condB rfl (fun hb => ?_) (fun hb => ?_)
        ·
          replace h := Sh.ite_pos hb h
          refine WpC.skipD ?_
          refine ⟨_, Heap.le_refl _, ?_⟩
          refine WpC.seq ?_
          refine WpC.block ?_
          refine WpC.seqD [] [0, 1, 2, 3, 4, 5, 6] (by kernel_rfl) (by kernel_rfl) ?_
          obtain ⟨ch_1, hch_1, h⟩ := Sh.bind_some h
          refine WpPi.pn 2 rfl trivial ?_
          refine WpPi.consI (v := (u8A ch_1)) rfl rfl rfl rfl (fun _ => Exact.ixs hch_1 rfl rfl rfl rfl) ?_
          obtain ⟨ch_2, hch_2, h⟩ := Sh.bind_some h
          refine WpPi.pn 2 rfl trivial ?_
          refine WpPi.consI (v := (u8A ch_2)) rfl rfl rfl rfl (fun _ => Exact.ixs hch_2 rfl rfl rfl rfl) ?_
          refine WpPi.pn 1 rfl trivial ?_
          refine WpPi.nil ?_
          refine WpC.condB rfl (fun hb => ?_) (fun hb => ?_)
          ·
            replace h := Sh.ite_pos hb h
            refine WpC.seqR ?_
            refine WpOps.pn 1 rfl trivial ?_
            refine WpOps.nil ?_
            obtain rfl := Sh.some_inj h
            have e := hd_3 _ rfl
            subst e
            have h := hk_3
            obtain rfl := Sh.some_inj h
            refine WpC.ret ?_
            exact VEnds.ret1 rfl rfl ⟨rfl, hH⟩
          ·
            replace h := Sh.ite_neg hb h
            refine WpC.skipD ?_
            refine ⟨_, Heap.le_refl _, ?_⟩
            refine WpC.regionD ?_
            obtain ⟨c_3, h⟩ := Sh.chk_some h
            refine WpOps.pn 3 rfl c_3 ?_
            refine WpOps.nil ?_
            obtain rfl := Sh.some_inj h
            exact ⟨_, (Heap.le_refl _), (k_3 + (1 : Int)), (), rfl, ⟨rfl, rfl, rfl, rfl, trivial⟩, hH⟩
        ·
          replace h := Sh.ite_neg hb h
          obtain rfl := Sh.some_inj h
          have e := hd_3 _ rfl
          subst e
          refine WpC.exit ?_
          exact ⟨((), ()), trivial, hk_3, hH⟩
      ·
        rintro ⟨_, _⟩ env H' ⟨h, hH⟩
        try dsimp only at h
        refine ⟨_, Heap.le_refl _, ?_⟩
        refine WpC.seqR ?_
        refine WpOps.pn 1 rfl trivial ?_
        refine WpOps.nil ?_
        obtain rfl := Sh.some_inj h
        refine WpC.ret ?_
        exact VEnds.ret1 rfl rfl ⟨rfl, hH⟩

theorem w_emendref03_next {H0 : Heap} {s_1 : List UInt8} {i_1 : Int} {r : Int × Int} (h : emendref03_next s_1 i_1 = some r) : TCall Tryd.prog 50 [(sA s_1), (iA i_1)] H0 (fun v H' => v = (.tup [(iA r.1), (iA r.2)]) ∧ H' = H0) noE := by
  refine id (TCall.body Tryd.func50 rfl rfl ?_)
  have hH : Holds H0 [] H0 := rfl
  refine WpC.seqR ?_
  refine WpOps.pn 2 rfl trivial ?_
  refine WpOps.nil ?_
  refine WpC.seq ?_
  refine WpC.seqR ?_
  obtain ⟨ch_1, hch_1, h⟩ := Sh.bind_some h
  refine WpOps.pn 2 rfl trivial ?_
  refine WpOps.consE (v := (u8A ch_1)) rfl rfl (Exact.ixs hch_1 rfl rfl rfl rfl) ?_
  refine WpOps.pn 1 rfl trivial ?_
  refine WpOps.nil ?_
  refine WpC.condB rfl (fun hb => ?_) (fun hb => ?_)
  ·
    replace h := Sh.ite_pos hb h
    refine WpC.seqR ?_
    refine WpOps.pn 2 rfl trivial ?_
    refine WpOps.nil ?_
    obtain rfl := Sh.some_inj h
    refine WpC.ret ?_
    exact VEnds.ret2 rfl rfl rfl ⟨rfl, hH⟩
  ·
    replace h := Sh.ite_neg hb h
    refine WpC.skipD ?_
    refine ⟨_, Heap.le_refl _, ?_⟩
    refine WpC.seqR ?_
    obtain ⟨r_1, hr_1, h⟩ := Sh.bind_some h
    refine WpOps.pn 2 rfl trivial ?_
    refine WpOps.consE (v := (iA r_1)) rfl rfl (Exact.call rfl rfl rfl (w_emendref03_word hr_1)) ?_
    refine WpOps.pn 1 rfl trivial ?_
    refine WpOps.nil ?_
    refine WpC.seq ?_
    refine WpC.seqR ?_
    refine WpOps.pn 2 rfl trivial ?_
    refine WpOps.nil ?_
    refine WpC.condB rfl (fun hb => ?_) (fun hb => ?_)
    ·
      replace h := Sh.ite_pos hb h
      refine WpC.seqR ?_
      refine WpOps.pn 3 rfl trivial ?_
      refine WpOps.nil ?_
      obtain rfl := Sh.some_inj h
      refine WpC.ret ?_
      exact VEnds.ret2 rfl rfl rfl ⟨rfl, hH⟩
    ·
      replace h := Sh.ite_neg hb h
      refine WpC.skipD ?_
      refine ⟨_, Heap.le_refl _, ?_⟩
      refine WpC.seqR ?_
      obtain ⟨r_2, hr_2, h⟩ := Sh.bind_some h
      refine WpOps.pn 2 rfl trivial ?_
      refine WpOps.consE (v := (iA r_2)) rfl rfl (Exact.call rfl rfl rfl (w_emendref03_number hr_2)) ?_
      refine WpOps.pn 1 rfl trivial ?_
      refine WpOps.nil ?_
      refine WpC.seq ?_
      refine WpC.seqR ?_
      refine WpOps.pn 2 rfl trivial ?_
      refine WpOps.nil ?_
      refine WpC.condB rfl (fun hb => ?_) (fun hb => ?_)
      ·
        replace h := Sh.ite_pos hb h
        refine WpC.seqR ?_
        refine WpOps.pn 3 rfl trivial ?_
        refine WpOps.nil ?_
        obtain rfl := Sh.some_inj h
        refine WpC.ret ?_
        exact VEnds.ret2 rfl rfl rfl ⟨rfl, hH⟩
      ·
        replace h := Sh.ite_neg hb h
        refine WpC.skipD ?_
        refine ⟨_, Heap.le_refl _, ?_⟩
        refine WpC.seqR ?_
        obtain ⟨r_3, hr_3, h⟩ := Sh.bind_some h
        refine WpOps.pn 2 rfl trivial ?_
        refine WpOps.consE (v := (iA r_3)) rfl rfl (Exact.call rfl rfl rfl (w_emendref03_quoted hr_3)) ?_
        refine WpOps.pn 1 rfl trivial ?_
        refine WpOps.nil ?_
        refine WpC.seq ?_
        refine WpC.seqR ?_
        refine WpOps.pn 2 rfl trivial ?_
        refine WpOps.nil ?_
        refine WpC.condB rfl (fun hb => ?_) (fun hb => ?_)
        ·
          replace h := Sh.ite_pos hb h
          refine WpC.seqR ?_
          refine WpOps.pn 3 rfl trivial ?_
          refine WpOps.nil ?_
          obtain rfl := Sh.some_inj h
          refine WpC.ret ?_
          exact VEnds.ret2 rfl rfl rfl ⟨rfl, hH⟩
        ·
          replace h := Sh.ite_neg hb h
          refine WpC.skipD ?_
          refine ⟨_, Heap.le_refl _, ?_⟩
          refine WpC.seqR ?_
          obtain ⟨r_4, hr_4, h⟩ := Sh.bind_some h
          refine WpOps.pn 2 rfl trivial ?_
          refine WpOps.consE (v := (iA r_4)) rfl rfl (Exact.call rfl rfl rfl (w_emendref03_quoted hr_4)) ?_
          refine WpOps.pn 1 rfl trivial ?_
          refine WpOps.nil ?_
          refine WpC.seq ?_
          refine WpC.seqR ?_
          refine WpOps.pn 2 rfl trivial ?_
          refine WpOps.nil ?_
          refine WpC.condB rfl (fun hb => ?_) (fun hb => ?_)
          ·
            replace h := Sh.ite_pos hb h
            refine WpC.seqR ?_
            refine WpOps.pn 3 rfl trivial ?_
            refine WpOps.nil ?_
            obtain rfl := Sh.some_inj h
            refine WpC.ret ?_
            exact VEnds.ret2 rfl rfl rfl ⟨rfl, hH⟩
          ·
            replace h := Sh.ite_neg hb h
            refine WpC.skipD ?_
            refine ⟨_, Heap.le_refl _, ?_⟩
            refine WpC.seqR ?_
            obtain ⟨r_5, hr_5, h⟩ := Sh.bind_some h
            refine WpOps.pn 2 rfl trivial ?_
            refine WpOps.consE (v := (iA r_5)) rfl rfl (Exact.call rfl rfl rfl (w_emendref03_sign hr_5)) ?_
            refine WpOps.pn 1 rfl trivial ?_
            refine WpOps.nil ?_
            refine WpC.seq ?_
            refine WpC.seqR ?_
            refine WpOps.pn 2 rfl trivial ?_
            refine WpOps.nil ?_
            refine WpC.condB rfl (fun hb => ?_) (fun hb => ?_)
            ·
              replace h := Sh.ite_pos hb h
              refine WpC.seqR ?_
              refine WpOps.pn 3 rfl trivial ?_
              refine WpOps.nil ?_
              obtain rfl := Sh.some_inj h
              refine WpC.ret ?_
              exact VEnds.ret2 rfl rfl rfl ⟨rfl, hH⟩
            ·
              replace h := Sh.ite_neg hb h
              refine WpC.skipD ?_
              refine ⟨_, Heap.le_refl _, ?_⟩
              refine WpC.seqR ?_
              refine WpOps.pn 2 rfl trivial ?_
              refine WpOps.nil ?_
              obtain rfl := Sh.some_inj h
              refine WpC.ret ?_
              exact VEnds.ret2 rfl rfl rfl ⟨rfl, hH⟩

theorem w_emendref03_Tokens {H0 : Heap} {file_1 : Int} {text_1 : List UInt8} {r : List GTok} (h : emendref03_Tokens file_1 text_1 = some r) : TCall Tryd.prog 20 [(iA file_1), (sA text_1)] H0 (fun v H' => v = (AV.rows 6 (List.map cGTok r)) ∧ H' = H0) noE := by
  refine id (TCall.body Tryd.func20 rfl rfl ?_)
  have hH : Holds H0 [] H0 := rfl
  refine WpC.seqR ?_
  refine WpOps.pn 1 rfl trivial ?_
  refine WpOps.nil ?_
  refine WpC.seqR ?_
  obtain ⟨r_1, hr_1, h⟩ := Sh.bind_some h
  refine WpOps.pn 1 rfl trivial ?_
  refine WpOps.consE (v := (AV.rows 2 (List.map cGChar r_1))) rfl rfl (Exact.call rfl rfl rfl (w_emendref02_Join hr_1)) ?_
  refine WpOps.pn 1 rfl trivial ?_
  refine WpOps.nil ?_
  refine WpC.seqR ?_
  obtain ⟨r_2, hr_2, h⟩ := Sh.bind_some h
  refine WpOps.pn 1 rfl trivial ?_
  refine WpOps.consE (v := (sA r_2)) rfl rfl (Exact.call rfl rfl rfl (w_emendref02_Text hr_2)) ?_
  refine WpOps.pn 1 rfl trivial ?_
  refine WpOps.nil ?_
  refine WpC.seqR ?_
  refine WpOps.pn 1 rfl trivial ?_
  have hH := hH.nil 38 6
  refine WpOps.nil ?_
  refine WpC.seqR ?_
  refine WpOps.pn 1 rfl trivial ?_
  refine WpOps.nil ?_
  refine WpC.seqR ?_
  refine WpOps.pn 1 rfl trivial ?_
  refine WpOps.nil ?_
  refine WpC.seqB (fun x : (List GTok) × ((Option (Nat × Nat))) => [(7, (.own (List.map cGTok x.1).length x.2))]) (fun x H' => emendref03_Tokens_j1 x.1 = some r ∧ Holds H0 [.own 38 6 x.2 (List.map cGTok x.1)] H') ?_ ?_
  ·
    obtain ⟨o_1, ho_1, hk_1⟩ := Sh.bind_some h
    refine WpC.loopS (emendref03_Tokens_b2 file_1 r_1 r_2) (fun (s : Int × Bool × List GTok) (a : (Option (Nat × Nat))) => [(0, (iA file_1)), (5, (AV.rows 2 (List.map cGChar r_1))), (6, (sA r_2)), (7, (.own (List.map cGTok s.2.2).length a)), (8, (iA s.1)), (9, (bA s.2.1))]) (fun (s : Int × Bool × List GTok) (a : (Option (Nat × Nat))) H' => Holds H0 [.own 38 6 a (List.map cGTok s.2.2)] H') o_1 ((0 : Int), false, ([] : List GTok)) none ho_1 ⟨rfl, rfl, rfl, rfl, rfl, rfl, trivial⟩ hH ?_
    rintro ⟨i_1, passed_1, out_1⟩ p_1 st_1 env H' h hd_1 hH
    refine WpC.seq ?_
    refine WpC.seqR ?_
    refine WpOps.pn 4 rfl trivial ?_
    refine WpOps.nil ?_
    refine WpC.condB rfl (fun hb => ?_) (fun hb => ?_)
    ·
      replace h := Sh.ite_pos hb h
      refine WpC.skipD ?_
      refine ⟨_, Heap.le_refl _, ?_⟩
      refine WpC.block ?_
      refine WpC.seqR ?_
      obtain ⟨r_3, hr_3, h⟩ := Sh.bind_some h
      refine WpOps.pn 2 rfl trivial ?_
      refine WpOps.consE (v := (iA r_3)) rfl rfl (Exact.call rfl rfl rfl (w_emendref03_blank hr_3)) ?_
      refine WpOps.pn 1 rfl trivial ?_
      refine WpOps.nil ?_
      refine WpC.seq ?_
      refine WpC.seqR ?_
      refine WpOps.pn 3 rfl trivial ?_
      refine WpOps.nil ?_
      refine WpC.condB rfl (fun hb => ?_) (fun hb => ?_)
      ·
        replace h := Sh.ite_pos hb h
        refine WpC.seqR ?_
        refine WpOps.pn 2 rfl trivial ?_
        refine WpOps.nil ?_
        refine WpC.seqR ?_
        refine WpOps.pn 1 rfl trivial ?_
        refine WpOps.nil ?_
        refine WpC.exitD ?_
        obtain rfl := Sh.some_inj h
        exact ⟨_, (Heap.le_refl _), (r_3, true, out_1), p_1, rfl, ⟨rfl, rfl, rfl, rfl, rfl, rfl, trivial⟩, hH⟩
      ·
        replace h := Sh.ite_neg hb h
        refine WpC.skipD ?_
        refine ⟨_, Heap.le_refl _, ?_⟩
        refine WpC.seqR ?_
        obtain ⟨r_4, hr_4, h⟩ := Sh.bind_some h
        refine WpOps.pn 2 rfl trivial ?_
        refine WpOps.consE (v := (.tup [(iA r_4.1), (iA r_4.2)])) rfl rfl (Exact.call rfl rfl rfl (w_emendref03_next hr_4)) ?_
        refine WpOps.pn 5 rfl trivial ?_
        refine WpOps.nil ?_
        refine WpC.seqD [.I, .I, .I, .I, .I, .I, .I, .I, .I, .I, .I, .I, .I, .I, .I, .I, .I, .I, .I, .I, .I, .I, .I, .I, .I, .I, .E] [0, 1, 2, 3, 4, 5, 6, 7, 8, 9, 10, 11, 12, 13, 14, 15, 16, 17, 18, 19, 20, 21, 22, 23, 24, 25, 26, 27] (by kernel_rfl) (by kernel_rfl) ?_
        obtain ⟨c_1, h⟩ := Sh.chk_some h
        obtain ⟨c_2, h⟩ := Sh.chk_some h
        refine WpPi.pn 7 rfl c_1 ?_
        refine WpPi.pn 1 rfl (show 0 ≤ i_1 ∧ 0 ≤ (i_1 + r_4.2) ∧ ((i_1).toNat ≤ ((i_1 + r_4.2)).toNat ∧ ((i_1 + r_4.2)).toNat ≤ r_2.length) from ⟨(by omega), (by omega), (by omega)⟩) ?_
        obtain ⟨y_1, hy_1, h⟩ := Sh.bind_some h
        refine WpPi.pn 3 rfl trivial ?_
        refine WpPi.consI (v := (.rop (cGChar y_1))) rfl rfl rfl rfl (fun _ => Exact.ixr cGChar hy_1 rfl rfl rfl rfl (by kernel_rfl) (by decide)) ?_
        refine WpPi.pn 1 rfl trivial ?_
        refine WpPi.consI (v := (iA y_1.at_)) rfl rfl rfl rfl (fun _ => Exact.load_rop rfl rfl rfl) ?_
        obtain ⟨c_3, h⟩ := Sh.chk_some h
        obtain ⟨c_4, h⟩ := Sh.chk_some h
        obtain ⟨y_2, hy_2, h⟩ := Sh.bind_some h
        refine WpPi.pn 5 rfl ⟨c_4, c_3⟩ ?_
        refine WpPi.consI (v := (.rop (cGChar y_2))) rfl rfl rfl rfl (fun _ => Exact.ixr cGChar hy_2 rfl rfl rfl rfl (by kernel_rfl) (by decide)) ?_
        refine WpPi.pn 1 rfl trivial ?_
        refine WpPi.consI (v := (iA y_2.at_)) rfl rfl rfl rfl (fun _ => Exact.load_rop rfl rfl rfl) ?_
        obtain ⟨c_5, h⟩ := Sh.chk_some h
        refine WpPi.pn 3 rfl c_5 ?_
        refine WpPi.consI (v := (AV.rows 6 (List.map cGTok ([(GTok.mk r_4.1 ((r_2.drop (i_1).toNat).take (((i_1 + r_4.2)).toNat - (i_1).toNat)) file_1 y_1.at_ (y_2.at_ + (1 : Int)) passed_1)] : List GTok)))) rfl rfl rfl rfl (fun _ => Exact.litSlice rfl (by kernel_rfl)) ?_
        obtain ⟨c_6, h⟩ := Sh.chk_some h
        refine WpPi.consE rfl rfl rfl rfl (WpO.pushT cGTok out_1 ([(GTok.mk r_4.1 ((r_2.drop (i_1).toNat).take (((i_1 + r_4.2)).toNat - (i_1).toNat)) file_1 y_1.at_ (y_2.at_ + (1 : Int)) passed_1)] : List GTok) (i := 0) rfl ek25 hH rfl rfl rfl (.rows _) (fun y _ => one_cGTok y) (by simp) c_6 (by decide) fun p_2 H' hH => ?_)
        refine WpPi.pn 1 rfl trivial ?_
        refine WpPi.nil ?_
        refine WpC.seqR ?_
        refine WpOps.pn 1 rfl trivial ?_
        refine WpOps.nil ?_
        refine WpC.regionD ?_
        obtain ⟨c_7, h⟩ := Sh.chk_some h
        refine WpOps.pn 4 rfl c_7 ?_
        refine WpOps.nil ?_
        obtain rfl := Sh.some_inj h
        exact ⟨_, (Heap.le_refl _), ((i_1 + r_4.2), false, (out_1 ++ ([(GTok.mk r_4.1 ((r_2.drop (i_1).toNat).take (((i_1 + r_4.2)).toNat - (i_1).toNat)) file_1 y_1.at_ (y_2.at_ + (1 : Int)) passed_1)] : List GTok))), p_2, rfl, ⟨rfl, rfl, rfl, rfl, rfl, rfl, trivial⟩, hH⟩
    ·
      replace h := Sh.ite_neg hb h
      obtain rfl := Sh.some_inj h
      have e := hd_1 _ rfl
      subst e
      refine WpC.exit ?_
      exact ⟨(out_1, p_1), ⟨rfl, trivial⟩, hk_1, hH⟩
  ·
    rintro ⟨out_2, p_3⟩ env H' ⟨h, hH⟩
    try dsimp only at h
    refine WpC.seqR ?_
    refine WpOps.pn 2 rfl trivial ?_
    refine WpOps.nil ?_
    refine WpC.freeze (t := 4) (i := 0) hH rfl rfl (fun H' hH => ?_)
    obtain rfl := Sh.some_inj h
    refine WpC.ret ?_
    exact VEnds.ret1 rfl rfl ⟨rfl, hH⟩

theorem w_emendlaw04_DirectPlays {H0 : Heap} (hG : Glob H0) {text_1 : List UInt8} {r : Bool} (h : emendlaw04_DirectPlays text_1 = some r) : TCall Tryd.prog 3 [(sA text_1)] H0 (fun v H' => v = (bA r) ∧ H' = H0) noE := by
  refine id (TCall.body Tryd.func3 rfl rfl ?_)
  have hH : Holds H0 [] H0 := rfl
  refine WpC.seqR ?_
  refine WpOps.pn 1 rfl trivial ?_
  refine WpOps.nil ?_
  refine WpC.seqR ?_
  obtain ⟨r_1, hr_1, h⟩ := Sh.bind_some h
  refine WpOps.consE (v := (bA r_1)) rfl rfl (Exact.call rfl rfl rfl (w_emendlaw04_awake (hG.up hH) hr_1)) ?_
  refine WpOps.pn 1 rfl trivial ?_
  refine WpOps.nil ?_
  refine WpC.seq ?_
  refine WpC.seqR ?_
  refine WpOps.pn 3 rfl trivial ?_
  refine WpOps.nil ?_
  refine WpC.condB rfl (fun hb => ?_) (fun hb => ?_)
  ·
    replace h := Sh.ite_pos hb h
    refine WpC.seqR ?_
    refine WpOps.pn 2 rfl trivial ?_
    refine WpOps.nil ?_
    obtain rfl := Sh.some_inj h
    refine WpC.ret ?_
    exact VEnds.ret1 rfl rfl ⟨rfl, hH⟩
  ·
    replace h := Sh.ite_neg hb h
    refine WpC.skipD ?_
    refine ⟨_, Heap.le_refl _, ?_⟩
    refine WpC.seqR ?_
    obtain ⟨r_2, hr_2, h⟩ := Sh.bind_some h
    refine WpOps.pn 1 rfl trivial ?_
    refine WpOps.consE (v := (AV.rows 6 (List.map cGTok r_2))) rfl rfl (Exact.call rfl rfl rfl (w_pptok_Tokens (hG.up hH) hr_2)) ?_
    obtain ⟨r_3, hr_3, h⟩ := Sh.bind_some h
    refine WpOps.consE (v := (AV.rows 4 (List.map cGLine r_3))) rfl rfl (Exact.call rfl rfl rfl (w_direct_Lines (hG.up hH) hr_3)) ?_
    refine WpOps.pn 1 rfl trivial ?_
    refine WpOps.nil ?_
    refine WpC.seqR ?_
    refine WpOps.pn 1 rfl trivial ?_
    obtain ⟨b_1, g_1, h⟩ := Sh.bind_some h
    refine WpOps.cutB 7 20 (bA b_1) rfl ?_ ?_
    ·
      refine WpOps.pn 1 rfl trivial ?_
      refine WpOps.split 14 rfl (fun hb => ?_) (fun hb => ?_)
      ·
        replace g_1 := Sh.ite_pos hb g_1
        obtain ⟨r_4, hr_4, g_1⟩ := Sh.bind_some g_1
        refine WpOps.pn 2 rfl trivial ?_
        refine WpOps.consE (v := (AV.rows 6 (List.map cGTok r_4))) rfl rfl (Exact.call rfl rfl rfl (w_emendref03_Tokens hr_4)) ?_
        obtain ⟨r_5, hr_5, g_1⟩ := Sh.bind_some g_1
        refine WpOps.consE (v := (AV.rows 4 (List.map cGLine r_5))) rfl rfl (Exact.call rfl rfl rfl (w_emendref04_Lines hr_5)) ?_
        obtain ⟨r_6, hr_6, g_1⟩ := Sh.bind_some g_1
        refine WpOps.consE (v := (bA r_6)) rfl rfl (Exact.call rfl rfl rfl (w_emendref04_Same hr_6)) ?_
        refine WpOps.pn 1 rfl trivial ?_
        refine WpOps.nil ?_
        obtain rfl := Sh.some_inj g_1
        exact ⟨rfl, rfl⟩
      ·
        replace g_1 := Sh.ite_neg hb g_1
        refine WpOps.pn 6 rfl trivial ?_
        refine WpOps.nil ?_
        obtain rfl := Sh.some_inj g_1
        exact ⟨rfl, rfl⟩
    intro env
    refine WpOps.pn 1 rfl trivial ?_
    refine WpOps.nil ?_
    obtain rfl := Sh.some_inj h
    refine WpC.ret ?_
    exact VEnds.ret1 rfl rfl ⟨rfl, hH⟩

theorem w_emendlaw04_DirectRaw {H0 : Heap} (hG : Glob H0) {l_1 : List GTok} {r : Bool} (h : emendlaw04_DirectRaw l_1 = some r) : TCall Tryd.prog 4 [(AV.rows 6 (List.map cGTok l_1))] H0 (fun v H' => v = (bA r) ∧ H' = H0) noE := by
  refine id (TCall.body Tryd.func4 rfl rfl ?_)
  have hH : Holds H0 [] H0 := rfl
  refine WpC.seqR ?_
  refine WpOps.pn 1 rfl trivial ?_
  refine WpOps.nil ?_
  refine WpC.seqR ?_
  obtain ⟨r_1, hr_1, h⟩ := Sh.bind_some h
  refine WpOps.consE (v := (bA r_1)) rfl rfl (Exact.call rfl rfl rfl (w_emendlaw04_awake (hG.up hH) hr_1)) ?_
  refine WpOps.pn 1 rfl trivial ?_
  refine WpOps.nil ?_
  refine WpC.seqR ?_
  obtain ⟨r_2, hr_2, h⟩ := Sh.bind_some h
  refine WpOps.pn 1 rfl trivial ?_
  refine WpOps.consE (v := (AV.rows 4 (List.map cGLine r_2))) rfl rfl (Exact.call rfl rfl rfl (w_direct_Lines (hG.up hH) hr_2)) ?_
  refine WpOps.pn 1 rfl trivial ?_
  refine WpOps.nil ?_
  refine WpC.seqR ?_
  refine WpOps.pn 1 rfl trivial ?_
  obtain ⟨b_1, g_1, h⟩ := Sh.bind_some h
  refine WpOps.cutB 6 14 (bA b_1) rfl ?_ ?_
  ·
    refine WpOps.pn 1 rfl trivial ?_
    refine WpOps.split 9 rfl (fun hb => ?_) (fun hb => ?_)
    ·
      replace g_1 := Sh.ite_pos hb g_1
      obtain ⟨r_3, hr_3, g_1⟩ := Sh.bind_some g_1
      refine WpOps.pn 2 rfl trivial ?_
      refine WpOps.consE (v := (AV.rows 4 (List.map cGLine r_3))) rfl rfl (Exact.call rfl rfl rfl (w_emendref04_Lines hr_3)) ?_
      obtain ⟨r_4, hr_4, g_1⟩ := Sh.bind_some g_1
      refine WpOps.consE (v := (bA r_4)) rfl rfl (Exact.call rfl rfl rfl (w_emendref04_Same hr_4)) ?_
      refine WpOps.pn 1 rfl trivial ?_
      refine WpOps.nil ?_
      obtain rfl := Sh.some_inj g_1
      exact ⟨rfl, rfl⟩
    ·
      replace g_1 := Sh.ite_neg hb g_1
      refine WpOps.pn 5 rfl trivial ?_
      refine WpOps.nil ?_
      obtain rfl := Sh.some_inj g_1
      exact ⟨rfl, rfl⟩
  intro env
  refine WpOps.pn 1 rfl trivial ?_
  refine WpOps.nil ?_
  obtain rfl := Sh.some_inj h
  refine WpC.ret ?_
  exact VEnds.ret1 rfl rfl ⟨rfl, hH⟩

theorem w_emendref04_Target {H0 : Heap} {l_1 : GLine} {r : List UInt8 × Bool × Int} (h : emendref04_Target l_1 = some r) : TCall Tryd.prog 22 [(AV.agg (cGLine l_1))] H0 (fun v H' => v = (.tup [(sA r.1), (bA r.2.1), (iA r.2.2)]) ∧ H' = H0) noE := by
  refine id (TCall.body Tryd.func22 rfl rfl ?_)
  have hH : Holds H0 [] H0 := rfl
  refine WpC.seqR ?_
  refine WpOps.consG rfl rfl (WpO.boxT (v := (AV.agg (cGLine l_1))) rfl rfl hH fun g_1 H' hH => ?_)
  refine WpOps.pn 3 rfl trivial ?_
  refine WpOps.nil ?_
  refine WpC.seq ?_
  refine WpC.seqR ?_
  refine WpOps.pn 1 rfl trivial ?_
  refine WpOps.consE (v := (iA l_1.kind)) rfl rfl (Exact.load rfl rfl (hH.cell (i := 0) rfl) rfl rfl) ?_
  refine WpOps.pn 1 rfl trivial ?_
  refine WpOps.nil ?_
  refine WpC.condB rfl (fun hb => ?_) (fun hb => ?_)
  ·
    replace h := Sh.ite_pos hb h
    refine WpC.seqR ?_
    refine WpOps.pn 3 rfl trivial ?_
    refine WpOps.nil ?_
    refine WpC.lose (i := 0) hH rfl (fun H' hH => ?_)
    obtain rfl := Sh.some_inj h
    refine WpC.ret ?_
    exact VEnds.ret3 rfl rfl rfl rfl ⟨rfl, hH⟩
  ·
    replace h := Sh.ite_neg hb h
    refine WpC.skipD ?_
    refine ⟨_, Heap.le_refl _, ?_⟩
    refine WpC.seqR ?_
    refine WpOps.pn 1 rfl trivial ?_
    refine WpOps.consE (v := (AV.rows 6 (List.map cGTok l_1.toks))) rfl rfl (Exact.load rfl rfl (hH.cell (i := 0) rfl) rfl rfl) ?_
    refine WpOps.pn 1 rfl trivial ?_
    refine WpOps.at 16 (len_map _ _) ?_
    refine WpOps.pn 1 rfl trivial ?_
    refine WpOps.nil ?_
    refine WpC.seqK (fun x : (Unit) × (Unit) => [(1, (.lit (.pointer (some ⟨g_1, 0, none⟩)))), (5, (iA (l_1.toks.length : Int)))]) (fun x H' => (emendref04_Target_j1 l_1) x.1 = some r ∧ Holds H0 [.cell g_1 31 (cGLine l_1)] H') ?_ ?_
    ·
      refine WpC.seqR ?_
      refine WpOps.pn 2 rfl trivial ?_
      obtain ⟨b_1, g_2, h⟩ := Sh.bind_some h
      refine WpOps.cutB 8 26 (bA b_1) rfl ?_ ?_
      ·
        refine WpOps.pn 1 rfl trivial ?_
        refine WpOps.split 19 rfl (fun hb => ?_) (fun hb => ?_)
        ·
          replace g_2 := Sh.ite_pos hb g_2
          refine WpOps.pn 1 rfl trivial ?_
          refine WpOps.consE (v := (AV.rows 6 (List.map cGTok l_1.toks))) rfl rfl (Exact.load rfl rfl (hH.cell (i := 0) rfl) rfl rfl) ?_
          obtain ⟨y_1, hy_1, g_2⟩ := Sh.bind_some g_2
          refine WpOps.consE (v := (.rop (cGTok y_1))) rfl rfl (Exact.ixr cGTok hy_1 rfl rfl rfl rfl (by kernel_rfl) (by decide)) ?_
          refine WpOps.pn 1 rfl trivial ?_
          refine WpOps.consE (v := (iA y_1.kind)) rfl rfl (Exact.load_rop rfl rfl rfl) ?_
          refine WpOps.pn 2 rfl trivial ?_
          refine WpOps.nil ?_
          obtain rfl := Sh.some_inj g_2
          exact ⟨rfl, rfl⟩
        ·
          replace g_2 := Sh.ite_neg hb g_2
          refine WpOps.pn 7 rfl trivial ?_
          refine WpOps.nil ?_
          obtain rfl := Sh.some_inj g_2
          exact ⟨rfl, rfl⟩
      intro env
      refine WpOps.nil ?_
      refine WpC.condB rfl (fun hb => ?_) (fun hb => ?_)
      ·
        replace h := Sh.ite_pos hb h
        refine WpC.seqR ?_
        refine WpOps.pn 1 rfl trivial ?_
        refine WpOps.consE (v := (AV.rows 6 (List.map cGTok l_1.toks))) rfl rfl (Exact.load rfl rfl (hH.cell (i := 0) rfl) rfl rfl) ?_
        obtain ⟨y_2, hy_2, h⟩ := Sh.bind_some h
        refine WpOps.consE (v := (.rop (cGTok y_2))) rfl rfl (Exact.ixr cGTok hy_2 rfl rfl rfl rfl (by kernel_rfl) (by decide)) ?_
        refine WpOps.pn 1 rfl trivial ?_
        refine WpOps.consE (v := (sA y_2.text)) rfl rfl (Exact.load_rop rfl rfl rfl) ?_
        refine WpOps.pn 1 rfl trivial ?_
        refine WpOps.nil ?_
        refine WpC.seqR ?_
        refine WpOps.pn 3 rfl trivial ?_
        refine WpOps.nil ?_
        refine WpC.condB rfl (fun hb => ?_) (fun hb => ?_)
        ·
          replace h := Sh.ite_pos hb h
          refine WpC.seqR ?_
          obtain ⟨c_1, h⟩ := Sh.chk_some h
          obtain ⟨c_2, h⟩ := Sh.chk_some h
          refine WpOps.pn 4 rfl c_1 ?_
          refine WpOps.pn 1 rfl (show 0 ≤ (1 : Int) ∧ 0 ≤ ((y_2.text.length : Int) - (1 : Int)) ∧ (((1 : Int)).toNat ≤ (((y_2.text.length : Int) - (1 : Int))).toNat ∧ (((y_2.text.length : Int) - (1 : Int))).toNat ≤ y_2.text.length) from ⟨(by omega), (by omega), (by omega)⟩) ?_
          refine WpOps.pn 3 rfl trivial ?_
          refine WpOps.nil ?_
          refine WpC.lose (i := 0) hH rfl (fun H' hH => ?_)
          obtain rfl := Sh.some_inj h
          refine WpC.ret ?_
          exact VEnds.ret3 rfl rfl rfl rfl ⟨rfl, hH⟩
        ·
          replace h := Sh.ite_neg hb h
          refine WpC.skipD ?_
          exact ⟨_, (Heap.le_refl _), ((), ()), ⟨rfl, rfl, trivial⟩, h, hH⟩
      ·
        replace h := Sh.ite_neg hb h
        refine WpC.skipD ?_
        exact ⟨_, (Heap.le_refl _), ((), ()), ⟨rfl, rfl, trivial⟩, h, hH⟩
    ·
      rintro ⟨_, _⟩ env H' ⟨h, hH⟩
      try dsimp only at h
      refine WpC.seq ?_
      refine WpC.seqR ?_
      refine WpOps.pn 2 rfl trivial ?_
      obtain ⟨b_2, g_3, h⟩ := Sh.bind_some h
      refine WpOps.cutB 8 49 (bA b_2) rfl ?_ ?_
      ·
        refine WpOps.pn 1 rfl trivial ?_
        refine WpOps.split 42 rfl (fun hb => ?_) (fun hb => ?_)
        ·
          replace g_3 := Sh.ite_pos hb g_3
          refine WpOps.pn 7 rfl trivial ?_
          refine WpOps.nil ?_
          obtain rfl := Sh.some_inj g_3
          exact ⟨rfl, rfl⟩
        ·
          replace g_3 := Sh.ite_neg hb g_3
          refine WpOps.pn 1 rfl trivial ?_
          refine WpOps.consE (v := (AV.rows 6 (List.map cGTok l_1.toks))) rfl rfl (Exact.load rfl rfl (hH.cell (i := 0) rfl) rfl rfl) ?_
          obtain ⟨y_3, hy_3, g_3⟩ := Sh.bind_some g_3
          refine WpOps.consE (v := (.rop (cGTok y_3))) rfl rfl (Exact.ixr cGTok hy_3 rfl rfl rfl rfl (by kernel_rfl) (by decide)) ?_
          refine WpOps.pn 1 rfl trivial ?_
          refine WpOps.consE (v := (iA y_3.kind)) rfl rfl (Exact.load_rop rfl rfl rfl) ?_
          refine WpOps.pn 2 rfl trivial ?_
          refine WpOps.nil ?_
          obtain rfl := Sh.some_inj g_3
          exact ⟨rfl, rfl⟩
      intro env
      obtain ⟨b_3, g_4, h⟩ := Sh.bind_some h
      refine WpOps.cutB 8 57 (bA b_3) rfl ?_ ?_
      ·
        refine WpOps.pn 1 rfl trivial ?_
        refine WpOps.split 50 rfl (fun hb => ?_) (fun hb => ?_)
        ·
          replace g_4 := Sh.ite_pos hb g_4
          refine WpOps.pn 7 rfl trivial ?_
          refine WpOps.nil ?_
          obtain rfl := Sh.some_inj g_4
          exact ⟨rfl, rfl⟩
        ·
          replace g_4 := Sh.ite_neg hb g_4
          refine WpOps.pn 1 rfl trivial ?_
          refine WpOps.consE (v := (AV.rows 6 (List.map cGTok l_1.toks))) rfl rfl (Exact.load rfl rfl (hH.cell (i := 0) rfl) rfl rfl) ?_
          obtain ⟨y_4, hy_4, g_4⟩ := Sh.bind_some g_4
          refine WpOps.consE (v := (.rop (cGTok y_4))) rfl rfl (Exact.ixr cGTok hy_4 rfl rfl rfl rfl (by kernel_rfl) (by decide)) ?_
          refine WpOps.pn 1 rfl trivial ?_
          refine WpOps.consE (v := (sA y_4.text)) rfl rfl (Exact.load_rop rfl rfl rfl) ?_
          refine WpOps.pn 2 rfl trivial ?_
          refine WpOps.nil ?_
          obtain rfl := Sh.some_inj g_4
          exact ⟨rfl, rfl⟩
      intro env
      refine WpOps.nil ?_
      refine WpC.condB rfl (fun hb => ?_) (fun hb => ?_)
      ·
        replace h := Sh.ite_pos hb h
        refine WpC.seqR ?_
        refine WpOps.pn 3 rfl trivial ?_
        refine WpOps.nil ?_
        refine WpC.lose (i := 0) hH rfl (fun H' hH => ?_)
        obtain rfl := Sh.some_inj h
        refine WpC.ret ?_
        exact VEnds.ret3 rfl rfl rfl rfl ⟨rfl, hH⟩
      ·
        replace h := Sh.ite_neg hb h
        refine WpC.skipD ?_
        refine ⟨_, Heap.le_refl _, ?_⟩
        refine WpC.seqR ?_
        refine WpOps.pn 1 rfl trivial ?_
        refine WpOps.nil ?_
        refine WpC.seq ?_
        refine WpC.seqR ?_
        refine WpOps.pn 1 rfl trivial ?_
        refine WpOps.nil ?_
        refine WpC.blockK (fun x : (List UInt8) × (Unit) => [(7, (sA x.1))]) (fun x H' => emendref04_Target_j2 x.1 = some r ∧ Holds H0 [] H') ?_ ?_
        ·
          obtain ⟨o_1, ho_1, hk_1⟩ := Sh.bind_some h
          refine WpC.loopS (emendref04_Target_b3 l_1) (fun (s : List UInt8 × Int) (a : Unit) => [(1, (.lit (.pointer (some ⟨g_1, 0, none⟩)))), (5, (iA (l_1.toks.length : Int))), (7, (sA s.1)), (8, (iA s.2))]) (fun (s : List UInt8 × Int) (a : Unit) H' => Holds H0 [.cell g_1 31 (cGLine l_1)] H') o_1 (([] : List UInt8), (1 : Int)) () ho_1 ⟨rfl, rfl, rfl, rfl, trivial⟩ hH ?_
          rintro ⟨s_1, i_1⟩ _ st_1 env H' h hd_1 hH
          refine WpC.seq ?_
          refine WpC.seqR ?_
          refine WpOps.pn 3 rfl trivial ?_
          refine WpOps.nil ?_
          refine WpC.condB rfl (fun hb => ?_) (fun hb => ?_)
          ·
            replace h := Sh.ite_pos hb h
            refine WpC.skipD ?_
            refine ⟨_, Heap.le_refl _, ?_⟩
            refine WpC.seq ?_
            refine WpC.block ?_
            refine WpC.seqR ?_
            refine WpOps.pn 1 rfl trivial ?_
            refine WpOps.consE (v := (AV.rows 6 (List.map cGTok l_1.toks))) rfl rfl (Exact.load rfl rfl (hH.cell (i := 0) rfl) rfl rfl) ?_
            obtain ⟨y_5, hy_5, h⟩ := Sh.bind_some h
            refine WpOps.pn 1 rfl trivial ?_
            refine WpOps.consE (v := (.rop (cGTok y_5))) rfl rfl (Exact.ixr cGTok hy_5 rfl rfl rfl rfl (by kernel_rfl) (by decide)) ?_
            refine WpOps.consE (v := (AV.agg (cGTok y_5))) rfl rfl (Exact.load_rop rfl rfl rfl) ?_
            refine WpOps.consG rfl rfl (WpO.allocT (z := cGTok (GTok.mk (0 : Int) ([] : List UInt8) (0 : Int) (0 : Int) (0 : Int) false)) rfl rfl hH fun g_5 H' hH => ?_)
            refine WpOps.consG rfl rfl (WpO.putT (cs' := cGTok y_5) (v := (AV.agg (cGTok y_5))) rfl rfl hH (i := 0) rfl rfl rfl rfl rfl rfl rfl fun H' hH => ?_)
            refine WpOps.nil ?_
            refine WpC.seqR ?_
            refine WpOps.pn 1 rfl trivial ?_
            refine WpOps.consE (v := (iA y_5.kind)) rfl rfl (Exact.load rfl rfl (hH.cell (i := 0) rfl) rfl rfl) ?_
            refine WpOps.pn 1 rfl trivial ?_
            obtain ⟨b_4, g_6, h⟩ := Sh.bind_some h
            refine WpOps.cutB 5 75 (bA b_4) rfl ?_ ?_
            ·
              refine WpOps.pn 1 rfl trivial ?_
              refine WpOps.split 71 rfl (fun hb => ?_) (fun hb => ?_)
              ·
                replace g_6 := Sh.ite_pos hb g_6
                refine WpOps.pn 1 rfl trivial ?_
                refine WpOps.consE (v := (sA y_5.text)) rfl rfl (Exact.load rfl rfl (hH.cell (i := 0) rfl) rfl rfl) ?_
                refine WpOps.pn 2 rfl trivial ?_
                refine WpOps.nil ?_
                obtain rfl := Sh.some_inj g_6
                exact ⟨rfl, rfl⟩
              ·
                replace g_6 := Sh.ite_neg hb g_6
                refine WpOps.pn 4 rfl trivial ?_
                refine WpOps.nil ?_
                obtain rfl := Sh.some_inj g_6
                exact ⟨rfl, rfl⟩
            intro env
            refine WpOps.pn 1 rfl trivial ?_
            refine WpOps.nil ?_
            refine WpC.seq ?_
            refine WpC.seqR ?_
            obtain ⟨c_3, h⟩ := Sh.chk_some h
            refine WpOps.pn 6 rfl c_3 ?_
            refine WpOps.nil ?_
            refine WpC.condB rfl (fun hb => ?_) (fun hb => ?_)
            ·
              replace h := Sh.ite_pos hb h
              refine WpC.seqR ?_
              refine WpOps.pn 3 rfl trivial ?_
              refine WpOps.nil ?_
              refine WpC.lose (i := 0) hH rfl (fun H' hH => ?_)
              refine WpC.lose (i := 0) hH rfl (fun H' hH => ?_)
              obtain rfl := Sh.some_inj h
              have e := hd_1 _ rfl
              subst e
              have h := hk_1
              obtain rfl := Sh.some_inj h
              refine WpC.ret ?_
              exact VEnds.ret3 rfl rfl rfl rfl ⟨rfl, hH⟩
            ·
              replace h := Sh.ite_neg hb h
              refine WpC.skipD ?_
              refine ⟨_, Heap.le_refl _, ?_⟩
              refine WpC.seqR ?_
              refine WpOps.pn 2 rfl trivial ?_
              refine WpOps.nil ?_
              refine WpC.condB rfl (fun hb => ?_) (fun hb => ?_)
              ·
                replace h := Sh.ite_pos hb h
                refine WpC.seqK (fun x : (List UInt8) × (Unit) => [(1, (.lit (.pointer (some ⟨g_1, 0, none⟩)))), (5, (iA (l_1.toks.length : Int))), (7, (sA x.1)), (8, (iA i_1)), (9, (.lit (.pointer (some ⟨g_5, 0, none⟩))))]) (fun x H' => (emendref04_Target_j4 i_1 y_5) x.1 = some st_1 ∧ Holds H0 [.cell g_5 38 (cGTok y_5), .cell g_1 31 (cGLine l_1)] H') ?_ ?_
                ·
                  refine WpC.seqR ?_
                  refine WpOps.pn 1 rfl trivial ?_
                  refine WpOps.consE (v := (bA y_5.blank)) rfl rfl (Exact.load rfl rfl (hH.cell (i := 0) rfl) rfl rfl) ?_
                  obtain ⟨b_5, g_7, h⟩ := Sh.bind_some h
                  refine WpOps.cutB 4 89 (bA b_5) rfl ?_ ?_
                  ·
                    refine WpOps.pn 1 rfl trivial ?_
                    refine WpOps.split 86 rfl (fun hb => ?_) (fun hb => ?_)
                    ·
                      replace g_7 := Sh.ite_pos hb g_7
                      refine WpOps.pn 3 rfl trivial ?_
                      refine WpOps.nil ?_
                      obtain rfl := Sh.some_inj g_7
                      exact ⟨rfl, rfl⟩
                    ·
                      replace g_7 := Sh.ite_neg hb g_7
                      refine WpOps.pn 3 rfl trivial ?_
                      refine WpOps.nil ?_
                      obtain rfl := Sh.some_inj g_7
                      exact ⟨rfl, rfl⟩
                  intro env
                  refine WpOps.nil ?_
                  refine WpC.condB rfl (fun hb => ?_) (fun hb => ?_)
                  ·
                    replace h := Sh.ite_pos hb h
                    refine WpC.regionD ?_
                    obtain ⟨c_4, h⟩ := Sh.chk_some h
                    refine WpOps.pn 3 rfl c_4 ?_
                    refine WpOps.nil ?_
                    exact ⟨_, (Heap.le_refl _), ((s_1 ++ ([32] : List UInt8)), ()), ⟨rfl, rfl, rfl, rfl, rfl, trivial⟩, h, hH⟩
                  ·
                    replace h := Sh.ite_neg hb h
                    refine WpC.skipD ?_
                    exact ⟨_, (Heap.le_refl _), (s_1, ()), ⟨rfl, rfl, rfl, rfl, rfl, trivial⟩, h, hH⟩
                ·
                  rintro ⟨s_2, _⟩ env H' ⟨h, hH⟩
                  try dsimp only at h
                  refine WpC.regionD ?_
                  refine WpOps.pn 2 rfl trivial ?_
                  refine WpOps.consE (v := (sA y_5.text)) rfl rfl (Exact.load rfl rfl (hH.cell (i := 0) rfl) rfl rfl) ?_
                  obtain ⟨c_5, h⟩ := Sh.chk_some h
                  refine WpOps.pn 2 rfl c_5 ?_
                  refine WpOps.nil ?_
                  refine ⟨_, Heap.le_refl _, ?_⟩
                  refine WpC.regionD ?_
                  obtain ⟨c_6, h⟩ := Sh.chk_some h
                  refine WpOps.pn 3 rfl c_6 ?_
                  refine WpOps.nil ?_
                  obtain ⟨_, hle_1, hH⟩ := hH.lose_ (i := 0) rfl
                  obtain rfl := Sh.some_inj h
                  exact ⟨_, hle_1, ((s_2 ++ y_5.text), (i_1 + (1 : Int))), (), rfl, ⟨rfl, rfl, rfl, rfl, trivial⟩, hH⟩
              ·
                replace h := Sh.ite_neg hb h
                refine WpC.skipD ?_
                refine ⟨_, Heap.le_refl _, ?_⟩
                refine WpC.regionD ?_
                obtain ⟨c_7, h⟩ := Sh.chk_some h
                refine WpOps.pn 3 rfl c_7 ?_
                refine WpOps.nil ?_
                obtain ⟨_, hle_2, hH⟩ := hH.lose_ (i := 0) rfl
                obtain rfl := Sh.some_inj h
                exact ⟨_, hle_2, (s_1, (i_1 + (1 : Int))), (), rfl, ⟨rfl, rfl, rfl, rfl, trivial⟩, hH⟩
          ·
            replace h := Sh.ite_neg hb h
            refine WpC.lose (i := 0) hH rfl (fun H' hH => ?_)
            obtain rfl := Sh.some_inj h
            have e := hd_1 _ rfl
            subst e
            refine WpC.exit ?_
            exact ⟨(s_1, ()), ⟨rfl, trivial⟩, hk_1, hH⟩
        ·
          rintro ⟨s_3, _⟩ env H' ⟨h, hH⟩
          try dsimp only at h
          refine ⟨_, Heap.le_refl _, ?_⟩
          refine WpC.seqR ?_
          refine WpOps.pn 4 rfl trivial ?_
          refine WpOps.nil ?_
          obtain rfl := Sh.some_inj h
          refine WpC.ret ?_
          exact VEnds.ret3 rfl rfl rfl rfl ⟨rfl, hH⟩

theorem w_emendlaw04_DirectTargets {H0 : Heap} (hG : Glob H0) {text_1 : List UInt8} {kind_1 : Int} {r : Bool} (h : emendlaw04_DirectTargets text_1 kind_1 = some r) : TCall Tryd.prog 5 [(sA text_1), (iA kind_1)] H0 (fun v H' => v = (bA r) ∧ H' = H0) noE := by
  refine id (TCall.body Tryd.func5 rfl rfl ?_)
  have hH : Holds H0 [] H0 := rfl
  refine WpC.seqR ?_
  refine WpOps.pn 1 rfl trivial ?_
  refine WpOps.nil ?_
  refine WpC.seqR ?_
  obtain ⟨r_1, hr_1, h⟩ := Sh.bind_some h
  refine WpOps.consE (v := (bA r_1)) rfl rfl (Exact.call rfl rfl rfl (w_emendlaw04_awake (hG.up hH) hr_1)) ?_
  refine WpOps.pn 1 rfl trivial ?_
  refine WpOps.nil ?_
  refine WpC.seq ?_
  refine WpC.seqR ?_
  refine WpOps.pn 3 rfl trivial ?_
  refine WpOps.nil ?_
  refine WpC.condB rfl (fun hb => ?_) (fun hb => ?_)
  ·
    replace h := Sh.ite_pos hb h
    refine WpC.seqR ?_
    refine WpOps.pn 2 rfl trivial ?_
    refine WpOps.nil ?_
    obtain rfl := Sh.some_inj h
    refine WpC.ret ?_
    exact VEnds.ret1 rfl rfl ⟨rfl, hH⟩
  ·
    replace h := Sh.ite_neg hb h
    refine WpC.skipD ?_
    refine ⟨_, Heap.le_refl _, ?_⟩
    refine WpC.seqR ?_
    obtain ⟨r_2, hr_2, h⟩ := Sh.bind_some h
    refine WpOps.pn 1 rfl trivial ?_
    refine WpOps.consE (v := (AV.rows 6 (List.map cGTok r_2))) rfl rfl (Exact.call rfl rfl rfl (w_pptok_Tokens (hG.up hH) hr_2)) ?_
    refine WpOps.pn 1 rfl trivial ?_
    refine WpOps.nil ?_
    refine WpC.seqR ?_
    refine WpOps.pn 3 rfl trivial ?_
    refine WpOps.consG rfl rfl (WpO.allocU (z' := cGLine (GLine.mk (0 : Int) (0 : Int) (0 : Int) ([] : List GTok))) rfl rfl (.cons (.refl _) (.cons (.refl _) (.cons (.refl _) (.cons (Sub.nil _) .nil)))) hH fun g_1 H' hH => ?_)
    refine WpOps.consG rfl rfl (WpO.putT (cs' := cGLine (GLine.mk kind_1 (0 : Int) (0 : Int) r_2)) (v := (AV.agg (cGLine (GLine.mk kind_1 (0 : Int) (0 : Int) r_2)))) rfl rfl hH (i := 0) rfl rfl rfl rfl rfl rfl rfl fun H' hH => ?_)
    refine WpOps.nil ?_
    refine WpC.seqR ?_
    refine WpOps.pn 2 rfl trivial ?_
    refine WpOps.consG rfl rfl (WpO.allocU (z' := cGLine (GLine.mk (0 : Int) (0 : Int) (0 : Int) ([] : List GTok))) rfl rfl (.cons (.refl _) (.cons (.refl _) (.cons (.refl _) (.cons (Sub.nil _) .nil)))) hH fun g_2 H' hH => ?_)
    refine WpOps.consG rfl rfl (WpO.putT (cs' := cGLine (GLine.mk (10 : Int) (0 : Int) (0 : Int) r_2)) (v := (AV.agg (cGLine (GLine.mk (10 : Int) (0 : Int) (0 : Int) r_2)))) rfl rfl hH (i := 0) rfl rfl rfl rfl rfl rfl rfl fun H' hH => ?_)
    refine WpOps.nil ?_
    refine WpC.seqR ?_
    refine WpOps.consE (v := (AV.agg (cGLine (GLine.mk kind_1 (0 : Int) (0 : Int) r_2)))) rfl rfl (Exact.load rfl rfl (hH.cell (i := 1) rfl) rfl rfl) ?_
    obtain ⟨r_3, hr_3, h⟩ := Sh.bind_some h
    refine WpOps.consE (v := (.tup [(sA r_3.1), (bA r_3.2.1), (iA r_3.2.2)])) rfl rfl (Exact.call rfl rfl rfl (w_direct_Target hr_3)) ?_
    refine WpOps.pn 7 rfl trivial ?_
    refine WpOps.nil ?_
    refine WpC.seqR ?_
    refine WpOps.consE (v := (AV.agg (cGLine (GLine.mk kind_1 (0 : Int) (0 : Int) r_2)))) rfl rfl (Exact.load rfl rfl (hH.cell (i := 1) rfl) rfl rfl) ?_
    obtain ⟨r_4, hr_4, h⟩ := Sh.bind_some h
    refine WpOps.consE (v := (.tup [(sA r_4.1), (bA r_4.2.1), (iA r_4.2.2)])) rfl rfl (Exact.call rfl rfl rfl (w_emendref04_Target hr_4)) ?_
    refine WpOps.pn 7 rfl trivial ?_
    refine WpOps.nil ?_
    refine WpC.seqR ?_
    refine WpOps.consE (v := (AV.agg (cGLine (GLine.mk (10 : Int) (0 : Int) (0 : Int) r_2)))) rfl rfl (Exact.load rfl rfl (hH.cell (i := 0) rfl) rfl rfl) ?_
    obtain ⟨r_5, hr_5, h⟩ := Sh.bind_some h
    refine WpOps.consE (v := (.tup [(sA r_5.1), (bA r_5.2.1), (iA r_5.2.2)])) rfl rfl (Exact.call rfl rfl rfl (w_direct_Target hr_5)) ?_
    refine WpOps.pn 7 rfl trivial ?_
    refine WpOps.nil ?_
    refine WpC.seqR ?_
    refine WpOps.consE (v := (AV.agg (cGLine (GLine.mk (10 : Int) (0 : Int) (0 : Int) r_2)))) rfl rfl (Exact.load rfl rfl (hH.cell (i := 0) rfl) rfl rfl) ?_
    obtain ⟨r_6, hr_6, h⟩ := Sh.bind_some h
    refine WpOps.consE (v := (.tup [(sA r_6.1), (bA r_6.2.1), (iA r_6.2.2)])) rfl rfl (Exact.call rfl rfl rfl (w_emendref04_Target hr_6)) ?_
    refine WpOps.pn 7 rfl trivial ?_
    refine WpOps.nil ?_
    refine WpC.seqR ?_
    refine WpOps.pn 1 rfl trivial ?_
    obtain ⟨b_1, g_3, h⟩ := Sh.bind_some h
    refine WpOps.cutB 5 62 (bA b_1) rfl ?_ ?_
    ·
      refine WpOps.pn 1 rfl trivial ?_
      refine WpOps.split 58 rfl (fun hb => ?_) (fun hb => ?_)
      ·
        replace g_3 := Sh.ite_pos hb g_3
        refine WpOps.pn 4 rfl trivial ?_
        refine WpOps.nil ?_
        obtain rfl := Sh.some_inj g_3
        exact ⟨rfl, rfl⟩
      ·
        replace g_3 := Sh.ite_neg hb g_3
        refine WpOps.pn 4 rfl trivial ?_
        refine WpOps.nil ?_
        obtain rfl := Sh.some_inj g_3
        exact ⟨rfl, rfl⟩
    intro env
    obtain ⟨b_2, g_4, h⟩ := Sh.bind_some h
    refine WpOps.cutB 5 67 (bA b_2) rfl ?_ ?_
    ·
      refine WpOps.pn 1 rfl trivial ?_
      refine WpOps.split 63 rfl (fun hb => ?_) (fun hb => ?_)
      ·
        replace g_4 := Sh.ite_pos hb g_4
        refine WpOps.pn 4 rfl trivial ?_
        refine WpOps.nil ?_
        obtain rfl := Sh.some_inj g_4
        exact ⟨rfl, rfl⟩
      ·
        replace g_4 := Sh.ite_neg hb g_4
        refine WpOps.pn 4 rfl trivial ?_
        refine WpOps.nil ?_
        obtain rfl := Sh.some_inj g_4
        exact ⟨rfl, rfl⟩
    intro env
    obtain ⟨b_3, g_5, h⟩ := Sh.bind_some h
    refine WpOps.cutB 5 72 (bA b_3) rfl ?_ ?_
    ·
      refine WpOps.pn 1 rfl trivial ?_
      refine WpOps.split 68 rfl (fun hb => ?_) (fun hb => ?_)
      ·
        replace g_5 := Sh.ite_pos hb g_5
        refine WpOps.pn 4 rfl trivial ?_
        refine WpOps.nil ?_
        obtain rfl := Sh.some_inj g_5
        exact ⟨rfl, rfl⟩
      ·
        replace g_5 := Sh.ite_neg hb g_5
        refine WpOps.pn 4 rfl trivial ?_
        refine WpOps.nil ?_
        obtain rfl := Sh.some_inj g_5
        exact ⟨rfl, rfl⟩
    intro env
    obtain ⟨b_4, g_6, h⟩ := Sh.bind_some h
    refine WpOps.cutB 5 77 (bA b_4) rfl ?_ ?_
    ·
      refine WpOps.pn 1 rfl trivial ?_
      refine WpOps.split 73 rfl (fun hb => ?_) (fun hb => ?_)
      ·
        replace g_6 := Sh.ite_pos hb g_6
        refine WpOps.pn 4 rfl trivial ?_
        refine WpOps.nil ?_
        obtain rfl := Sh.some_inj g_6
        exact ⟨rfl, rfl⟩
      ·
        replace g_6 := Sh.ite_neg hb g_6
        refine WpOps.pn 4 rfl trivial ?_
        refine WpOps.nil ?_
        obtain rfl := Sh.some_inj g_6
        exact ⟨rfl, rfl⟩
    intro env
    obtain ⟨b_5, g_7, h⟩ := Sh.bind_some h
    refine WpOps.cutB 5 82 (bA b_5) rfl ?_ ?_
    ·
      refine WpOps.pn 1 rfl trivial ?_
      refine WpOps.split 78 rfl (fun hb => ?_) (fun hb => ?_)
      ·
        replace g_7 := Sh.ite_pos hb g_7
        refine WpOps.pn 4 rfl trivial ?_
        refine WpOps.nil ?_
        obtain rfl := Sh.some_inj g_7
        exact ⟨rfl, rfl⟩
      ·
        replace g_7 := Sh.ite_neg hb g_7
        refine WpOps.pn 4 rfl trivial ?_
        refine WpOps.nil ?_
        obtain rfl := Sh.some_inj g_7
        exact ⟨rfl, rfl⟩
    intro env
    obtain ⟨b_6, g_8, h⟩ := Sh.bind_some h
    refine WpOps.cutB 5 87 (bA b_6) rfl ?_ ?_
    ·
      refine WpOps.pn 1 rfl trivial ?_
      refine WpOps.split 83 rfl (fun hb => ?_) (fun hb => ?_)
      ·
        replace g_8 := Sh.ite_pos hb g_8
        refine WpOps.pn 4 rfl trivial ?_
        refine WpOps.nil ?_
        obtain rfl := Sh.some_inj g_8
        exact ⟨rfl, rfl⟩
      ·
        replace g_8 := Sh.ite_neg hb g_8
        refine WpOps.pn 4 rfl trivial ?_
        refine WpOps.nil ?_
        obtain rfl := Sh.some_inj g_8
        exact ⟨rfl, rfl⟩
    intro env
    refine WpOps.pn 1 rfl trivial ?_
    refine WpOps.nil ?_
    refine WpC.lose (i := 0) hH rfl (fun H' hH => ?_)
    refine WpC.lose (i := 0) hH rfl (fun H' hH => ?_)
    obtain rfl := Sh.some_inj h
    refine WpC.ret ?_
    exact VEnds.ret1 rfl rfl ⟨rfl, hH⟩

theorem w_emendlaw04_DirectCovers {H0 : Heap} (hG : Glob H0) {text_1 : List UInt8} {r : Bool} (h : emendlaw04_DirectCovers text_1 = some r) : TCall Tryd.prog 6 [(sA text_1)] H0 (fun v H' => v = (bA r) ∧ H' = H0) noE := by
  refine id (TCall.body Tryd.func6 rfl rfl ?_)
  have hH : Holds H0 [] H0 := rfl
  refine WpC.seqR ?_
  refine WpOps.pn 1 rfl trivial ?_
  refine WpOps.nil ?_
  refine WpC.seqR ?_
  obtain ⟨r_1, hr_1, h⟩ := Sh.bind_some h
  refine WpOps.consE (v := (bA r_1)) rfl rfl (Exact.call rfl rfl rfl (w_emendlaw04_awake (hG.up hH) hr_1)) ?_
  refine WpOps.pn 1 rfl trivial ?_
  refine WpOps.nil ?_
  refine WpC.seq ?_
  refine WpC.seqR ?_
  refine WpOps.pn 3 rfl trivial ?_
  refine WpOps.nil ?_
  refine WpC.condB rfl (fun hb => ?_) (fun hb => ?_)
  ·
    replace h := Sh.ite_pos hb h
    refine WpC.seqR ?_
    refine WpOps.pn 2 rfl trivial ?_
    refine WpOps.nil ?_
    obtain rfl := Sh.some_inj h
    refine WpC.ret ?_
    exact VEnds.ret1 rfl rfl ⟨rfl, hH⟩
  ·
    replace h := Sh.ite_neg hb h
    refine WpC.skipD ?_
    refine ⟨_, Heap.le_refl _, ?_⟩
    refine WpC.seqR ?_
    obtain ⟨r_2, hr_2, h⟩ := Sh.bind_some h
    refine WpOps.pn 1 rfl trivial ?_
    refine WpOps.consE (v := (AV.rows 6 (List.map cGTok r_2))) rfl rfl (Exact.call rfl rfl rfl (w_pptok_Tokens (hG.up hH) hr_2)) ?_
    refine WpOps.pn 1 rfl trivial ?_
    refine WpOps.nil ?_
    refine WpC.seqR ?_
    obtain ⟨r_3, hr_3, h⟩ := Sh.bind_some h
    refine WpOps.pn 1 rfl trivial ?_
    refine WpOps.consE (v := (AV.rows 4 (List.map cGLine r_3))) rfl rfl (Exact.call rfl rfl rfl (w_direct_Lines (hG.up hH) hr_3)) ?_
    refine WpOps.pn 1 rfl trivial ?_
    refine WpOps.nil ?_
    refine WpC.seqR ?_
    refine WpOps.pn 1 rfl trivial ?_
    refine WpOps.nil ?_
    refine WpC.seq ?_
    refine WpC.seqR ?_
    refine WpOps.pn 1 rfl trivial ?_
    refine WpOps.nil ?_
    refine WpC.blockK (fun x : (Int) × (Unit) => [(3, (bA r_1)), (4, (AV.rows 6 (List.map cGTok r_2))), (6, (iA x.1))]) (fun x H' => (emendlaw04_DirectCovers_j1 r_1 r_2) x.1 = some r ∧ Holds H0 [] H') ?_ ?_
    ·
      obtain ⟨o_1, ho_1, hk_1⟩ := Sh.bind_some h
      refine WpC.loopS (emendlaw04_DirectCovers_b2 r_2 r_3) (fun (s : Int × Int) (a : Unit) => [(3, (bA r_1)), (4, (AV.rows 6 (List.map cGTok r_2))), (5, (AV.rows 4 (List.map cGLine r_3))), (6, (iA s.1)), (7, (iA s.2))]) (fun (s : Int × Int) (a : Unit) H' => Holds H0 [] H') o_1 ((0 : Int), (0 : Int)) () ho_1 ⟨rfl, rfl, rfl, rfl, rfl, trivial⟩ hH ?_
      rintro ⟨at_1, i_1⟩ _ st_1 env H' h hd_1 hH
      refine WpC.seq ?_
      refine WpC.seqR ?_
      refine WpOps.pn 3 rfl trivial ?_
      refine WpOps.at 22 (len_map _ _) ?_
      refine WpOps.pn 1 rfl trivial ?_
      refine WpOps.nil ?_
      refine WpC.condB rfl (fun hb => ?_) (fun hb => ?_)
      ·
        replace h := Sh.ite_pos hb h
        refine WpC.skipD ?_
        refine ⟨_, Heap.le_refl _, ?_⟩
        refine WpC.seq ?_
        refine WpC.block ?_
        refine WpC.seqR ?_
        obtain ⟨y_1, hy_1, h⟩ := Sh.bind_some h
        refine WpOps.pn 2 rfl trivial ?_
        refine WpOps.consE (v := (.rop (cGLine y_1))) rfl rfl (Exact.ixr cGLine hy_1 rfl rfl rfl rfl (by kernel_rfl) (by decide)) ?_
        refine WpOps.consE (v := (AV.agg (cGLine y_1))) rfl rfl (Exact.load_rop rfl rfl rfl) ?_
        refine WpOps.consG rfl rfl (WpO.allocU (z' := cGLine (GLine.mk (0 : Int) (0 : Int) (0 : Int) ([] : List GTok))) rfl rfl (.cons (.refl _) (.cons (.refl _) (.cons (.refl _) (.cons (Sub.nil _) .nil)))) hH fun g_1 H' hH => ?_)
        refine WpOps.consG rfl rfl (WpO.putT (cs' := cGLine y_1) (v := (AV.agg (cGLine y_1))) rfl rfl hH (i := 0) rfl rfl rfl rfl rfl rfl rfl fun H' hH => ?_)
        refine WpOps.nil ?_
        refine WpC.seq ?_
        refine WpC.seqR ?_
        refine WpOps.pn 1 rfl trivial ?_
        refine WpOps.consE (v := (iA y_1.first)) rfl rfl (Exact.load rfl rfl (hH.cell (i := 0) rfl) rfl rfl) ?_
        refine WpOps.pn 2 rfl trivial ?_
        obtain ⟨b_1, g_2, h⟩ := Sh.bind_some h
        refine WpOps.cutB 5 38 (bA b_1) rfl ?_ ?_
        ·
          refine WpOps.pn 1 rfl trivial ?_
          refine WpOps.split 34 rfl (fun hb => ?_) (fun hb => ?_)
          ·
            replace g_2 := Sh.ite_pos hb g_2
            refine WpOps.pn 4 rfl trivial ?_
            refine WpOps.nil ?_
            obtain rfl := Sh.some_inj g_2
            exact ⟨rfl, rfl⟩
          ·
            replace g_2 := Sh.ite_neg hb g_2
            refine WpOps.pn 1 rfl trivial ?_
            refine WpOps.consE (v := (iA y_1.n)) rfl rfl (Exact.load rfl rfl (hH.cell (i := 0) rfl) rfl rfl) ?_
            refine WpOps.pn 2 rfl trivial ?_
            refine WpOps.nil ?_
            obtain rfl := Sh.some_inj g_2
            exact ⟨rfl, rfl⟩
        intro env
        obtain ⟨b_2, g_3, h⟩ := Sh.bind_some h
        refine WpOps.cutB 9 47 (bA b_2) rfl ?_ ?_
        ·
          refine WpOps.pn 1 rfl trivial ?_
          refine WpOps.split 39 rfl (fun hb => ?_) (fun hb => ?_)
          ·
            replace g_3 := Sh.ite_pos hb g_3
            refine WpOps.pn 8 rfl trivial ?_
            refine WpOps.nil ?_
            obtain rfl := Sh.some_inj g_3
            exact ⟨rfl, rfl⟩
          ·
            replace g_3 := Sh.ite_neg hb g_3
            refine WpOps.pn 2 rfl trivial ?_
            refine WpOps.consE (v := (iA y_1.n)) rfl rfl (Exact.load rfl rfl (hH.cell (i := 0) rfl) rfl rfl) ?_
            obtain ⟨c_1, g_3⟩ := Sh.chk_some g_3
            refine WpOps.pn 3 rfl c_1 ?_
            refine WpOps.at 45 (len_map _ _) ?_
            refine WpOps.pn 2 rfl trivial ?_
            refine WpOps.nil ?_
            obtain rfl := Sh.some_inj g_3
            exact ⟨rfl, rfl⟩
        intro env
        obtain ⟨b_3, g_4, h⟩ := Sh.bind_some h
        refine WpOps.cutB 8 55 (bA b_3) rfl ?_ ?_
        ·
          refine WpOps.pn 1 rfl trivial ?_
          refine WpOps.split 48 rfl (fun hb => ?_) (fun hb => ?_)
          ·
            replace g_4 := Sh.ite_pos hb g_4
            refine WpOps.pn 7 rfl trivial ?_
            refine WpOps.nil ?_
            obtain rfl := Sh.some_inj g_4
            exact ⟨rfl, rfl⟩
          ·
            replace g_4 := Sh.ite_neg hb g_4
            refine WpOps.pn 1 rfl trivial ?_
            refine WpOps.consE (v := (AV.rows 6 (List.map cGTok y_1.toks))) rfl rfl (Exact.load rfl rfl (hH.cell (i := 0) rfl) rfl rfl) ?_
            refine WpOps.pn 1 rfl trivial ?_
            refine WpOps.at 51 (len_map _ _) ?_
            refine WpOps.pn 1 rfl trivial ?_
            refine WpOps.consE (v := (iA y_1.n)) rfl rfl (Exact.load rfl rfl (hH.cell (i := 0) rfl) rfl rfl) ?_
            refine WpOps.pn 2 rfl trivial ?_
            refine WpOps.nil ?_
            obtain rfl := Sh.some_inj g_4
            exact ⟨rfl, rfl⟩
        intro env
        refine WpOps.nil ?_
        refine WpC.condB rfl (fun hb => ?_) (fun hb => ?_)
        ·
          replace h := Sh.ite_pos hb h
          refine WpC.seqR ?_
          refine WpOps.pn 1 rfl trivial ?_
          refine WpOps.nil ?_
          refine WpC.lose (i := 0) hH rfl (fun H' hH => ?_)
          obtain rfl := Sh.some_inj h
          have e := hd_1 _ rfl
          subst e
          have h := hk_1
          obtain rfl := Sh.some_inj h
          refine WpC.ret ?_
          exact VEnds.ret1 rfl rfl ⟨rfl, hH⟩
        ·
          replace h := Sh.ite_neg hb h
          refine WpC.skipD ?_
          refine ⟨_, Heap.le_refl _, ?_⟩
          refine WpC.seqD [.I, .S, .I, .I, .I, .S, .I, .I, .S, .I, .I, .I, .I, .S] [0, 1, 2, 3, 4, 5, 6, 7, 8, 9, 10, 11, 12, 13, 14, 15, 16, 17] (by kernel_rfl) (by kernel_rfl) ?_
          refine WpPi.pn 1 rfl trivial ?_
          refine WpPi.consS (v := (AV.rows 6 (List.map cGTok y_1.toks))) rfl rfl rfl rfl (Exact.load rfl rfl (hH.cell (i := 0) rfl) rfl rfl) ?_
          refine WpPi.pn 3 rfl trivial ?_
          refine WpPi.consS (v := (iA y_1.n)) rfl rfl rfl rfl (Exact.load rfl rfl (hH.cell (i := 0) rfl) rfl rfl) ?_
          obtain ⟨c_2, h⟩ := Sh.chk_some h
          refine WpPi.pn 2 rfl c_2 ?_
          refine WpPi.consS (v := (AV.rows 6 (List.map cGTok y_1.toks))) rfl rfl rfl rfl (Exact.load rfl rfl (hH.cell (i := 0) rfl) rfl rfl) ?_
          refine WpPi.pn 1 rfl trivial ?_
          refine WpPi.at 65 (len_map _ _) ?_
          obtain ⟨c_3, h⟩ := Sh.chk_some h
          refine WpPi.pn 3 rfl c_3 ?_
          refine WpPi.consS (v := (iA y_1.n)) rfl rfl rfl rfl (Exact.load rfl rfl (hH.cell (i := 0) rfl) rfl rfl) ?_
          obtain ⟨c_4, h⟩ := Sh.chk_some h
          obtain ⟨c_5, h⟩ := Sh.chk_some h
          refine WpPi.pn 1 rfl c_4 ?_
          refine WpPi.pn 1 rfl (show 0 ≤ ((at_1 + y_1.n) - (y_1.toks.length : Int)) ∧ 0 ≤ (at_1 + y_1.n) ∧ True ∧ ((((at_1 + y_1.n) - (y_1.toks.length : Int))).toNat ≤ ((at_1 + y_1.n)).toNat ∧ ((at_1 + y_1.n)).toNat ≤ (List.map cGTok r_2).length) ∧ True from ⟨(by omega), (by omega), trivial, (by simp only [List.length_map]; omega), trivial⟩) ?_
          refine WpPi.at 71 (rows_cut 6 cGTok r_2 _ _) ?_
          obtain ⟨r_4, hr_4, h⟩ := Sh.bind_some h
          refine WpPi.consI (v := (bA r_4)) rfl rfl rfl rfl (fun _ => Exact.call rfl rfl rfl (w_emendref03_Same hr_4)) ?_
          refine WpPi.pn 1 rfl trivial ?_
          refine WpPi.nil ?_
          refine WpC.seq ?_
          refine WpC.seqR ?_
          refine WpOps.pn 2 rfl trivial ?_
          refine WpOps.nil ?_
          refine WpC.condB rfl (fun hb => ?_) (fun hb => ?_)
          ·
            replace h := Sh.ite_pos hb h
            refine WpC.seqR ?_
            refine WpOps.pn 1 rfl trivial ?_
            refine WpOps.nil ?_
            refine WpC.lose (i := 0) hH rfl (fun H' hH => ?_)
            obtain rfl := Sh.some_inj h
            have e := hd_1 _ rfl
            subst e
            have h := hk_1
            obtain rfl := Sh.some_inj h
            refine WpC.ret ?_
            exact VEnds.ret1 rfl rfl ⟨rfl, hH⟩
          ·
            replace h := Sh.ite_neg hb h
            refine WpC.skipD ?_
            refine ⟨_, Heap.le_refl _, ?_⟩
            refine WpC.seq ?_
            refine WpC.seqR ?_
            refine WpOps.pn 2 rfl trivial ?_
            refine WpOps.nil ?_
            refine WpC.blockK (fun x : (Unit) × (Unit) => [(3, (bA r_1)), (4, (AV.rows 6 (List.map cGTok r_2))), (5, (AV.rows 4 (List.map cGLine r_3))), (6, (iA at_1)), (7, (iA i_1)), (8, (.lit (.pointer (some ⟨g_1, 0, none⟩))))]) (fun x H' => (emendlaw04_DirectCovers_j3 r_2 at_1 i_1 y_1) x.1 = some st_1 ∧ Holds H0 [.cell g_1 31 (cGLine y_1)] H') ?_ ?_
            ·
              obtain ⟨o_2, ho_2, hk_2⟩ := Sh.bind_some h
              refine WpC.loopS (emendlaw04_DirectCovers_b4 r_2 at_1 y_1) (fun (s : Int) (a : Unit) => [(3, (bA r_1)), (4, (AV.rows 6 (List.map cGTok r_2))), (5, (AV.rows 4 (List.map cGLine r_3))), (6, (iA at_1)), (7, (iA i_1)), (8, (.lit (.pointer (some ⟨g_1, 0, none⟩)))), (10, (iA s))]) (fun (s : Int) (a : Unit) H' => Holds H0 [.cell g_1 31 (cGLine y_1)] H') o_2 at_1 () ho_2 ⟨rfl, rfl, rfl, rfl, rfl, rfl, rfl, trivial⟩ hH ?_
              rintro k_1 _ st_2 env H' h hd_2 hH
              refine WpC.seq ?_
              refine WpC.seqR ?_
              refine WpOps.pn 3 rfl trivial ?_
              refine WpOps.consE (v := (iA y_1.n)) rfl rfl (Exact.load rfl rfl (hH.cell (i := 0) rfl) rfl rfl) ?_
              obtain ⟨c_6, h⟩ := Sh.chk_some h
              refine WpOps.pn 2 rfl c_6 ?_
              refine WpOps.nil ?_
              refine WpC.condB rfl (fun hb => ?_) (fun hb => ?_)
              ·
                replace h := Sh.ite_pos hb h
                refine WpC.skipD ?_
                refine ⟨_, Heap.le_refl _, ?_⟩
                refine WpC.seq ?_
                refine WpC.block ?_
                refine WpC.seqR ?_
                obtain ⟨y_2, hy_2, h⟩ := Sh.bind_some h
                refine WpOps.pn 2 rfl trivial ?_
                refine WpOps.consE (v := (.rop (cGTok y_2))) rfl rfl (Exact.ixr cGTok hy_2 rfl rfl rfl rfl (by kernel_rfl) (by decide)) ?_
                refine WpOps.pn 1 rfl trivial ?_
                refine WpOps.consE (v := (iA y_2.kind)) rfl rfl (Exact.load_rop rfl rfl rfl) ?_
                refine WpOps.pn 1 rfl trivial ?_
                refine WpOps.nil ?_
                refine WpC.condB rfl (fun hb => ?_) (fun hb => ?_)
                ·
                  replace h := Sh.ite_pos hb h
                  refine WpC.seqR ?_
                  refine WpOps.pn 1 rfl trivial ?_
                  refine WpOps.nil ?_
                  refine WpC.lose (i := 0) hH rfl (fun H' hH => ?_)
                  obtain rfl := Sh.some_inj h
                  have e := hd_2 _ rfl
                  subst e
                  have h := hk_2
                  obtain rfl := Sh.some_inj h
                  have e := hd_1 _ rfl
                  subst e
                  have h := hk_1
                  obtain rfl := Sh.some_inj h
                  refine WpC.ret ?_
                  exact VEnds.ret1 rfl rfl ⟨rfl, hH⟩
                ·
                  replace h := Sh.ite_neg hb h
                  refine WpC.skipD ?_
                  refine ⟨_, Heap.le_refl _, ?_⟩
                  refine WpC.regionD ?_
                  obtain ⟨c_7, h⟩ := Sh.chk_some h
                  refine WpOps.pn 3 rfl c_7 ?_
                  refine WpOps.nil ?_
                  obtain rfl := Sh.some_inj h
                  exact ⟨_, (Heap.le_refl _), (k_1 + (1 : Int)), (), rfl, ⟨rfl, rfl, rfl, rfl, rfl, rfl, rfl, trivial⟩, hH⟩
              ·
                replace h := Sh.ite_neg hb h
                obtain rfl := Sh.some_inj h
                have e := hd_2 _ rfl
                subst e
                refine WpC.exit ?_
                exact ⟨((), ()), ⟨rfl, rfl, rfl, rfl, rfl, rfl, trivial⟩, hk_2, hH⟩
            ·
              rintro ⟨_, _⟩ env H' ⟨h, hH⟩
              try dsimp only at h
              refine ⟨_, Heap.le_refl _, ?_⟩
              refine WpC.seqR ?_
              refine WpOps.pn 2 rfl trivial ?_
              refine WpOps.consE (v := (iA y_1.n)) rfl rfl (Exact.load rfl rfl (hH.cell (i := 0) rfl) rfl rfl) ?_
              obtain ⟨c_8, h⟩ := Sh.chk_some h
              refine WpOps.pn 2 rfl c_8 ?_
              refine WpOps.nil ?_
              refine WpC.seqR ?_
              refine WpOps.pn 3 rfl trivial ?_
              refine WpOps.at 96 (len_map _ _) ?_
              refine WpOps.pn 1 rfl trivial ?_
              refine WpOps.nil ?_
              refine WpC.condB rfl (fun hb => ?_) (fun hb => ?_)
              ·
                replace h := Sh.ite_pos hb h
                refine WpC.seq ?_
                refine WpC.seqR ?_
                obtain ⟨y_3, hy_3, h⟩ := Sh.bind_some h
                refine WpOps.pn 2 rfl trivial ?_
                refine WpOps.consE (v := (.rop (cGTok y_3))) rfl rfl (Exact.ixr cGTok hy_3 rfl rfl rfl rfl (by kernel_rfl) (by decide)) ?_
                refine WpOps.pn 1 rfl trivial ?_
                refine WpOps.consE (v := (iA y_3.kind)) rfl rfl (Exact.load_rop rfl rfl rfl) ?_
                refine WpOps.pn 1 rfl trivial ?_
                refine WpOps.nil ?_
                refine WpC.condB rfl (fun hb => ?_) (fun hb => ?_)
                ·
                  replace h := Sh.ite_pos hb h
                  refine WpC.seqR ?_
                  refine WpOps.pn 1 rfl trivial ?_
                  refine WpOps.nil ?_
                  refine WpC.lose (i := 0) hH rfl (fun H' hH => ?_)
                  obtain rfl := Sh.some_inj h
                  have e := hd_1 _ rfl
                  subst e
                  have h := hk_1
                  obtain rfl := Sh.some_inj h
                  refine WpC.ret ?_
                  exact VEnds.ret1 rfl rfl ⟨rfl, hH⟩
                ·
                  replace h := Sh.ite_neg hb h
                  refine WpC.skipD ?_
                  refine ⟨_, Heap.le_refl _, ?_⟩
                  refine WpC.regionD ?_
                  obtain ⟨c_9, h⟩ := Sh.chk_some h
                  refine WpOps.pn 3 rfl c_9 ?_
                  refine WpOps.nil ?_
                  refine ⟨_, Heap.le_refl _, ?_⟩
                  refine WpC.regionD ?_
                  obtain ⟨c_10, h⟩ := Sh.chk_some h
                  refine WpOps.pn 3 rfl c_10 ?_
                  refine WpOps.nil ?_
                  obtain ⟨_, hle_1, hH⟩ := hH.lose_ (i := 0) rfl
                  obtain rfl := Sh.some_inj h
                  exact ⟨_, hle_1, (((at_1 + y_1.n) + (1 : Int)), (i_1 + (1 : Int))), (), rfl, ⟨rfl, rfl, rfl, rfl, rfl, trivial⟩, hH⟩
              ·
                replace h := Sh.ite_neg hb h
                refine WpC.skipD ?_
                refine ⟨_, Heap.le_refl _, ?_⟩
                refine WpC.regionD ?_
                obtain ⟨c_11, h⟩ := Sh.chk_some h
                refine WpOps.pn 3 rfl c_11 ?_
                refine WpOps.nil ?_
                obtain ⟨_, hle_2, hH⟩ := hH.lose_ (i := 0) rfl
                obtain rfl := Sh.some_inj h
                exact ⟨_, hle_2, ((at_1 + y_1.n), (i_1 + (1 : Int))), (), rfl, ⟨rfl, rfl, rfl, rfl, rfl, trivial⟩, hH⟩
      ·
        replace h := Sh.ite_neg hb h
        obtain rfl := Sh.some_inj h
        have e := hd_1 _ rfl
        subst e
        refine WpC.exit ?_
        exact ⟨(at_1, ()), ⟨rfl, rfl, rfl, trivial⟩, hk_1, hH⟩
    ·
      rintro ⟨at_2, _⟩ env H' ⟨h, hH⟩
      try dsimp only at h
      refine ⟨_, Heap.le_refl _, ?_⟩
      refine WpC.seqR ?_
      refine WpOps.pn 1 rfl trivial ?_
      obtain ⟨b_4, g_5, h⟩ := Sh.bind_some h
      refine WpOps.cutB 6 112 (bA b_4) rfl ?_ ?_
      ·
        refine WpOps.pn 1 rfl trivial ?_
        refine WpOps.split 107 rfl (fun hb => ?_) (fun hb => ?_)
        ·
          replace g_5 := Sh.ite_pos hb g_5
          refine WpOps.pn 3 rfl trivial ?_
          refine WpOps.at 110 (len_map _ _) ?_
          refine WpOps.pn 2 rfl trivial ?_
          refine WpOps.nil ?_
          obtain rfl := Sh.some_inj g_5
          exact ⟨rfl, rfl⟩
        ·
          replace g_5 := Sh.ite_neg hb g_5
          refine WpOps.pn 5 rfl trivial ?_
          refine WpOps.nil ?_
          obtain rfl := Sh.some_inj g_5
          exact ⟨rfl, rfl⟩
      intro env
      refine WpOps.pn 1 rfl trivial ?_
      refine WpOps.nil ?_
      obtain rfl := Sh.some_inj h
      refine WpC.ret ?_
      exact VEnds.ret1 rfl rfl ⟨rfl, hH⟩

theorem w_emendlaw04_DirectNames {H0 : Heap} (hG : Glob H0) {name_1 : List UInt8} {r : Bool} (h : emendlaw04_DirectNames name_1 = some r) : TCall Tryd.prog 7 [(sA name_1)] H0 (fun v H' => v = (bA r) ∧ H' = H0) noE := by
  refine id (TCall.body Tryd.func7 rfl rfl ?_)
  have hH : Holds H0 [] H0 := rfl
  refine WpC.seqR ?_
  refine WpOps.pn 1 rfl trivial ?_
  refine WpOps.nil ?_
  refine WpC.seqR ?_
  obtain ⟨r_1, hr_1, h⟩ := Sh.bind_some h
  refine WpOps.consE (v := (bA r_1)) rfl rfl (Exact.call rfl rfl rfl (w_emendlaw04_awake (hG.up hH) hr_1)) ?_
  refine WpOps.pn 1 rfl trivial ?_
  refine WpOps.nil ?_
  refine WpC.seq ?_
  refine WpC.seqR ?_
  refine WpOps.pn 3 rfl trivial ?_
  obtain ⟨b_1, g_1, h⟩ := Sh.bind_some h
  refine WpOps.cutB 5 23 (bA b_1) rfl ?_ ?_
  ·
    refine WpOps.pn 1 rfl trivial ?_
    refine WpOps.split 19 rfl (fun hb => ?_) (fun hb => ?_)
    ·
      replace g_1 := Sh.ite_pos hb g_1
      refine WpOps.pn 4 rfl trivial ?_
      refine WpOps.nil ?_
      obtain rfl := Sh.some_inj g_1
      exact ⟨rfl, rfl⟩
    ·
      replace g_1 := Sh.ite_neg hb g_1
      refine WpOps.pn 4 rfl trivial ?_
      refine WpOps.nil ?_
      obtain rfl := Sh.some_inj g_1
      exact ⟨rfl, rfl⟩
  intro env
  refine WpOps.nil ?_
  refine WpC.condB rfl (fun hb => ?_) (fun hb => ?_)
  ·
    replace h := Sh.ite_pos hb h
    refine WpC.seqR ?_
    refine WpOps.pn 2 rfl trivial ?_
    refine WpOps.nil ?_
    obtain rfl := Sh.some_inj h
    refine WpC.ret ?_
    exact VEnds.ret1 rfl rfl ⟨rfl, hH⟩
  ·
    replace h := Sh.ite_neg hb h
    refine WpC.skipD ?_
    refine ⟨_, Heap.le_refl _, ?_⟩
    refine WpC.seq ?_
    refine WpC.seqR ?_
    refine WpOps.pn 1 rfl trivial ?_
    refine WpOps.nil ?_
    refine WpC.blockK (fun x : (Unit) × (Unit) => [(0, (sA name_1)), (3, (bA r_1))]) (fun x H' => (emendlaw04_DirectNames_j1 name_1 r_1) x.1 = some r ∧ Holds H0 [] H') ?_ ?_
    ·
      obtain ⟨o_1, ho_1, hk_1⟩ := Sh.bind_some h
      refine WpC.loopS (emendlaw04_DirectNames_b2 name_1 r_1) (fun (s : Int) (a : Unit) => [(0, (sA name_1)), (3, (bA r_1)), (4, (iA s))]) (fun (s : Int) (a : Unit) H' => Holds H0 [] H') o_1 (0 : Int) () ho_1 ⟨rfl, rfl, rfl, trivial⟩ hH ?_
      rintro i_1 _ st_1 env H' h hd_1 hH
      refine WpC.seq ?_
      refine WpC.seqR ?_
      refine WpOps.pn 4 rfl trivial ?_
      refine WpOps.nil ?_
      refine WpC.condB rfl (fun hb => ?_) (fun hb => ?_)
      ·
        replace h := Sh.ite_pos hb h
        refine WpC.skipD ?_
        refine ⟨_, Heap.le_refl _, ?_⟩
        refine WpC.seq ?_
        refine WpC.block ?_
        refine WpC.seqR ?_
        obtain ⟨ch_1, hch_1, h⟩ := Sh.bind_some h
        refine WpOps.pn 2 rfl trivial ?_
        refine WpOps.consE (v := (u8A ch_1)) rfl rfl (Exact.ixs hch_1 rfl rfl rfl rfl) ?_
        refine WpOps.pn 1 rfl trivial ?_
        refine WpOps.nil ?_
        refine WpC.seqR ?_
        refine WpOps.pn 2 rfl trivial ?_
        obtain ⟨b_2, g_2, h⟩ := Sh.bind_some h
        refine WpOps.cutB 4 39 (bA b_2) rfl ?_ ?_
        ·
          refine WpOps.pn 1 rfl trivial ?_
          refine WpOps.split 36 rfl (fun hb => ?_) (fun hb => ?_)
          ·
            replace g_2 := Sh.ite_pos hb g_2
            refine WpOps.pn 3 rfl trivial ?_
            refine WpOps.nil ?_
            obtain rfl := Sh.some_inj g_2
            exact ⟨rfl, rfl⟩
          ·
            replace g_2 := Sh.ite_neg hb g_2
            refine WpOps.pn 3 rfl trivial ?_
            refine WpOps.nil ?_
            obtain rfl := Sh.some_inj g_2
            exact ⟨rfl, rfl⟩
        intro env
        obtain ⟨b_3, g_3, h⟩ := Sh.bind_some h
        refine WpOps.cutB 8 47 (bA b_3) rfl ?_ ?_
        ·
          refine WpOps.pn 1 rfl trivial ?_
          refine WpOps.split 40 rfl (fun hb => ?_) (fun hb => ?_)
          ·
            replace g_3 := Sh.ite_pos hb g_3
            refine WpOps.pn 7 rfl trivial ?_
            refine WpOps.nil ?_
            obtain rfl := Sh.some_inj g_3
            exact ⟨rfl, rfl⟩
          ·
            replace g_3 := Sh.ite_neg hb g_3
            refine WpOps.pn 2 rfl trivial ?_
            obtain ⟨b_4, g_4, g_3⟩ := Sh.bind_some g_3
            refine WpOps.cutB 4 46 (bA b_4) rfl ?_ ?_
            ·
              refine WpOps.pn 1 rfl trivial ?_
              refine WpOps.split 43 rfl (fun hb => ?_) (fun hb => ?_)
              ·
                replace g_4 := Sh.ite_pos hb g_4
                refine WpOps.pn 3 rfl trivial ?_
                refine WpOps.nil ?_
                obtain rfl := Sh.some_inj g_4
                exact ⟨rfl, rfl⟩
              ·
                replace g_4 := Sh.ite_neg hb g_4
                refine WpOps.pn 3 rfl trivial ?_
                refine WpOps.nil ?_
                obtain rfl := Sh.some_inj g_4
                exact ⟨rfl, rfl⟩
            intro env
            refine WpOps.pn 1 rfl trivial ?_
            refine WpOps.nil ?_
            obtain rfl := Sh.some_inj g_3
            exact ⟨rfl, rfl⟩
        intro env
        obtain ⟨b_5, g_5, h⟩ := Sh.bind_some h
        refine WpOps.cutB 8 55 (bA b_5) rfl ?_ ?_
        ·
          refine WpOps.pn 1 rfl trivial ?_
          refine WpOps.split 48 rfl (fun hb => ?_) (fun hb => ?_)
          ·
            replace g_5 := Sh.ite_pos hb g_5
            refine WpOps.pn 7 rfl trivial ?_
            refine WpOps.nil ?_
            obtain rfl := Sh.some_inj g_5
            exact ⟨rfl, rfl⟩
          ·
            replace g_5 := Sh.ite_neg hb g_5
            refine WpOps.pn 2 rfl trivial ?_
            obtain ⟨b_6, g_6, g_5⟩ := Sh.bind_some g_5
            refine WpOps.cutB 4 54 (bA b_6) rfl ?_ ?_
            ·
              refine WpOps.pn 1 rfl trivial ?_
              refine WpOps.split 51 rfl (fun hb => ?_) (fun hb => ?_)
              ·
                replace g_6 := Sh.ite_pos hb g_6
                refine WpOps.pn 3 rfl trivial ?_
                refine WpOps.nil ?_
                obtain rfl := Sh.some_inj g_6
                exact ⟨rfl, rfl⟩
              ·
                replace g_6 := Sh.ite_neg hb g_6
                refine WpOps.pn 3 rfl trivial ?_
                refine WpOps.nil ?_
                obtain rfl := Sh.some_inj g_6
                exact ⟨rfl, rfl⟩
            intro env
            refine WpOps.pn 1 rfl trivial ?_
            refine WpOps.nil ?_
            obtain rfl := Sh.some_inj g_5
            exact ⟨rfl, rfl⟩
        intro env
        obtain ⟨b_7, g_7, h⟩ := Sh.bind_some h
        refine WpOps.cutB 4 59 (bA b_7) rfl ?_ ?_
        ·
          refine WpOps.pn 1 rfl trivial ?_
          refine WpOps.split 56 rfl (fun hb => ?_) (fun hb => ?_)
          ·
            replace g_7 := Sh.ite_pos hb g_7
            refine WpOps.pn 3 rfl trivial ?_
            refine WpOps.nil ?_
            obtain rfl := Sh.some_inj g_7
            exact ⟨rfl, rfl⟩
          ·
            replace g_7 := Sh.ite_neg hb g_7
            refine WpOps.pn 3 rfl trivial ?_
            refine WpOps.nil ?_
            obtain rfl := Sh.some_inj g_7
            exact ⟨rfl, rfl⟩
        intro env
        obtain ⟨b_8, g_8, h⟩ := Sh.bind_some h
        refine WpOps.cutB 4 63 (bA b_8) rfl ?_ ?_
        ·
          refine WpOps.pn 1 rfl trivial ?_
          refine WpOps.split 60 rfl (fun hb => ?_) (fun hb => ?_)
          ·
            replace g_8 := Sh.ite_pos hb g_8
            refine WpOps.pn 3 rfl trivial ?_
            refine WpOps.nil ?_
            obtain rfl := Sh.some_inj g_8
            exact ⟨rfl, rfl⟩
          ·
            replace g_8 := Sh.ite_neg hb g_8
            refine WpOps.pn 3 rfl trivial ?_
            refine WpOps.nil ?_
            obtain rfl := Sh.some_inj g_8
            exact ⟨rfl, rfl⟩
        intro env
        obtain ⟨b_9, g_9, h⟩ := Sh.bind_some h
        refine WpOps.cutB 4 67 (bA b_9) rfl ?_ ?_
        ·
          refine WpOps.pn 1 rfl trivial ?_
          refine WpOps.split 64 rfl (fun hb => ?_) (fun hb => ?_)
          ·
            replace g_9 := Sh.ite_pos hb g_9
            refine WpOps.pn 3 rfl trivial ?_
            refine WpOps.nil ?_
            obtain rfl := Sh.some_inj g_9
            exact ⟨rfl, rfl⟩
          ·
            replace g_9 := Sh.ite_neg hb g_9
            refine WpOps.pn 3 rfl trivial ?_
            refine WpOps.nil ?_
            obtain rfl := Sh.some_inj g_9
            exact ⟨rfl, rfl⟩
        intro env
        refine WpOps.pn 1 rfl trivial ?_
        refine WpOps.nil ?_
        refine WpC.seqR ?_
        refine WpOps.pn 2 rfl trivial ?_
        obtain ⟨b_10, g_10, h⟩ := Sh.bind_some h
        refine WpOps.cutB 15 84 (bA b_10) rfl ?_ ?_
        ·
          refine WpOps.pn 1 rfl trivial ?_
          refine WpOps.split 70 rfl (fun hb => ?_) (fun hb => ?_)
          ·
            replace g_10 := Sh.ite_pos hb g_10
            refine WpOps.pn 14 rfl trivial ?_
            refine WpOps.nil ?_
            obtain rfl := Sh.some_inj g_10
            exact ⟨rfl, rfl⟩
          ·
            replace g_10 := Sh.ite_neg hb g_10
            refine WpOps.pn 2 rfl trivial ?_
            obtain ⟨b_11, g_11, g_10⟩ := Sh.bind_some g_10
            refine WpOps.cutB 4 76 (bA b_11) rfl ?_ ?_
            ·
              refine WpOps.pn 1 rfl trivial ?_
              refine WpOps.split 73 rfl (fun hb => ?_) (fun hb => ?_)
              ·
                replace g_11 := Sh.ite_pos hb g_11
                refine WpOps.pn 3 rfl trivial ?_
                refine WpOps.nil ?_
                obtain rfl := Sh.some_inj g_11
                exact ⟨rfl, rfl⟩
              ·
                replace g_11 := Sh.ite_neg hb g_11
                refine WpOps.pn 3 rfl trivial ?_
                refine WpOps.nil ?_
                obtain rfl := Sh.some_inj g_11
                exact ⟨rfl, rfl⟩
            intro env
            obtain ⟨b_12, g_12, g_10⟩ := Sh.bind_some g_10
            refine WpOps.cutB 7 83 (bA b_12) rfl ?_ ?_
            ·
              refine WpOps.pn 1 rfl trivial ?_
              refine WpOps.split 77 rfl (fun hb => ?_) (fun hb => ?_)
              ·
                replace g_12 := Sh.ite_pos hb g_12
                obtain ⟨c_1, g_12⟩ := Sh.chk_some g_12
                obtain ⟨ch_2, hch_2, g_12⟩ := Sh.bind_some g_12
                refine WpOps.pn 3 rfl c_1 ?_
                refine WpOps.consE (v := (u8A ch_2)) rfl rfl (Exact.ixs hch_2 rfl rfl rfl rfl) ?_
                refine WpOps.pn 2 rfl trivial ?_
                refine WpOps.nil ?_
                obtain rfl := Sh.some_inj g_12
                exact ⟨rfl, rfl⟩
              ·
                replace g_12 := Sh.ite_neg hb g_12
                refine WpOps.pn 6 rfl trivial ?_
                refine WpOps.nil ?_
                obtain rfl := Sh.some_inj g_12
                exact ⟨rfl, rfl⟩
            intro env
            refine WpOps.pn 1 rfl trivial ?_
            refine WpOps.nil ?_
            obtain rfl := Sh.some_inj g_10
            exact ⟨rfl, rfl⟩
        intro env
        refine WpOps.nil ?_
        refine WpC.condB rfl (fun hb => ?_) (fun hb => ?_)
        ·
          replace h := Sh.ite_pos hb h
          refine WpC.seqR ?_
          refine WpOps.pn 2 rfl trivial ?_
          refine WpOps.nil ?_
          obtain rfl := Sh.some_inj h
          have e := hd_1 _ rfl
          subst e
          have h := hk_1
          obtain rfl := Sh.some_inj h
          refine WpC.ret ?_
          exact VEnds.ret1 rfl rfl ⟨rfl, hH⟩
        ·
          replace h := Sh.ite_neg hb h
          refine WpC.skipD ?_
          refine ⟨_, Heap.le_refl _, ?_⟩
          refine WpC.regionD ?_
          obtain ⟨c_2, h⟩ := Sh.chk_some h
          refine WpOps.pn 3 rfl c_2 ?_
          refine WpOps.nil ?_
          obtain rfl := Sh.some_inj h
          exact ⟨_, (Heap.le_refl _), (i_1 + (1 : Int)), (), rfl, ⟨rfl, rfl, rfl, trivial⟩, hH⟩
      ·
        replace h := Sh.ite_neg hb h
        obtain rfl := Sh.some_inj h
        have e := hd_1 _ rfl
        subst e
        refine WpC.exit ?_
        exact ⟨((), ()), ⟨rfl, rfl, trivial⟩, hk_1, hH⟩
    ·
      rintro ⟨_, _⟩ env H' ⟨h, hH⟩
      try dsimp only at h
      refine ⟨_, Heap.le_refl _, ?_⟩
      refine WpC.seqR ?_
      obtain ⟨c_3, h⟩ := Sh.chk_some h
      obtain ⟨c_4, h⟩ := Sh.chk_some h
      obtain ⟨r_2, hr_2, h⟩ := Sh.bind_some h
      refine WpOps.pn 3 rfl ⟨c_4, c_3⟩ ?_
      refine WpOps.consE (v := (AV.agg (cGLine r_2))) rfl rfl (Exact.call rfl rfl rfl (w_emendlaw04_first (hG.up hH) hr_2)) ?_
      obtain ⟨r_3, hr_3, h⟩ := Sh.bind_some h
      refine WpOps.consE (v := (.tup [(sA r_3.1), (bA r_3.2.1), (iA r_3.2.2)])) rfl rfl (Exact.call rfl rfl rfl (w_direct_Target hr_3)) ?_
      refine WpOps.pn 7 rfl trivial ?_
      refine WpOps.nil ?_
      refine WpC.seqR ?_
      obtain ⟨c_5, h⟩ := Sh.chk_some h
      obtain ⟨c_6, h⟩ := Sh.chk_some h
      obtain ⟨r_4, hr_4, h⟩ := Sh.bind_some h
      refine WpOps.pn 3 rfl ⟨c_6, c_5⟩ ?_
      refine WpOps.consE (v := (AV.agg (cGLine r_4))) rfl rfl (Exact.call rfl rfl rfl (w_emendlaw04_first (hG.up hH) hr_4)) ?_
      obtain ⟨r_5, hr_5, h⟩ := Sh.bind_some h
      refine WpOps.consE (v := (.tup [(sA r_5.1), (bA r_5.2.1), (iA r_5.2.2)])) rfl rfl (Exact.call rfl rfl rfl (w_direct_Target hr_5)) ?_
      refine WpOps.pn 7 rfl trivial ?_
      refine WpOps.nil ?_
      refine WpC.seqR ?_
      refine WpOps.pn 1 rfl trivial ?_
      refine WpOps.nil ?_
      refine WpC.seq ?_
      refine WpC.seqR ?_
      refine WpOps.pn 1 rfl trivial ?_
      refine WpOps.nil ?_
      refine WpC.blockK (fun x : (Bool) × (Unit) => [(0, (sA name_1)), (3, (bA r_1)), (7, (sA r_3.1)), (8, (bA r_3.2.1)), (9, (iA r_3.2.2)), (10, (sA r_5.1)), (11, (bA r_5.2.1)), (12, (iA r_5.2.2)), (13, (bA x.1))]) (fun x H' => (emendlaw04_DirectNames_j3 name_1 r_1 r_3 r_5) x.1 = some r ∧ Holds H0 [] H') ?_ ?_
      ·
        obtain ⟨o_2, ho_2, hk_2⟩ := Sh.bind_some h
        refine WpC.loopS (emendlaw04_DirectNames_b4 name_1) (fun (s : Bool × Int) (a : Unit) => [(0, (sA name_1)), (3, (bA r_1)), (7, (sA r_3.1)), (8, (bA r_3.2.1)), (9, (iA r_3.2.2)), (10, (sA r_5.1)), (11, (bA r_5.2.1)), (12, (iA r_5.2.2)), (13, (bA s.1)), (14, (iA s.2))]) (fun (s : Bool × Int) (a : Unit) H' => Holds H0 [] H') o_2 (false, (0 : Int)) () ho_2 ⟨rfl, rfl, rfl, rfl, rfl, rfl, rfl, rfl, rfl, rfl, trivial⟩ hH ?_
        rintro ⟨arrow_1, i_2⟩ _ st_2 env H' h hd_2 hH
        refine WpC.seq ?_
        refine WpC.seqR ?_
        refine WpOps.pn 4 rfl trivial ?_
        refine WpOps.nil ?_
        refine WpC.condB rfl (fun hb => ?_) (fun hb => ?_)
        ·
          replace h := Sh.ite_pos hb h
          refine WpC.skipD ?_
          refine ⟨_, Heap.le_refl _, ?_⟩
          refine WpC.seq ?_
          refine WpC.block ?_
          refine WpC.regionD ?_
          refine WpOps.pn 1 rfl trivial ?_
          obtain ⟨b_13, g_13, h⟩ := Sh.bind_some h
          refine WpOps.cutB 13 123 (bA b_13) rfl ?_ ?_
          ·
            refine WpOps.pn 1 rfl trivial ?_
            refine WpOps.split 111 rfl (fun hb => ?_) (fun hb => ?_)
            ·
              replace g_13 := Sh.ite_pos hb g_13
              refine WpOps.pn 12 rfl trivial ?_
              refine WpOps.nil ?_
              obtain rfl := Sh.some_inj g_13
              exact ⟨rfl, rfl⟩
            ·
              replace g_13 := Sh.ite_neg hb g_13
              obtain ⟨ch_3, hch_3, g_13⟩ := Sh.bind_some g_13
              refine WpOps.pn 2 rfl trivial ?_
              refine WpOps.consE (v := (u8A ch_3)) rfl rfl (Exact.ixs hch_3 rfl rfl rfl rfl) ?_
              refine WpOps.pn 1 rfl trivial ?_
              obtain ⟨b_14, g_14, g_13⟩ := Sh.bind_some g_13
              refine WpOps.cutB 7 122 (bA b_14) rfl ?_ ?_
              ·
                refine WpOps.pn 1 rfl trivial ?_
                refine WpOps.split 116 rfl (fun hb => ?_) (fun hb => ?_)
                ·
                  replace g_14 := Sh.ite_pos hb g_14
                  obtain ⟨c_7, g_14⟩ := Sh.chk_some g_14
                  refine WpOps.pn 6 rfl c_7 ?_
                  refine WpOps.nil ?_
                  obtain rfl := Sh.some_inj g_14
                  exact ⟨rfl, rfl⟩
                ·
                  replace g_14 := Sh.ite_neg hb g_14
                  refine WpOps.pn 6 rfl trivial ?_
                  refine WpOps.nil ?_
                  obtain rfl := Sh.some_inj g_14
                  exact ⟨rfl, rfl⟩
              intro env
              refine WpOps.pn 1 rfl trivial ?_
              refine WpOps.nil ?_
              obtain rfl := Sh.some_inj g_13
              exact ⟨rfl, rfl⟩
          intro env
          refine WpOps.pn 1 rfl trivial ?_
          refine WpOps.nil ?_
          refine ⟨_, Heap.le_refl _, ?_⟩
          refine WpC.regionD ?_
          obtain ⟨c_8, h⟩ := Sh.chk_some h
          refine WpOps.pn 3 rfl c_8 ?_
          refine WpOps.nil ?_
          obtain rfl := Sh.some_inj h
          exact ⟨_, (Heap.le_refl _), (b_13, (i_2 + (1 : Int))), (), rfl, ⟨rfl, rfl, rfl, rfl, rfl, rfl, rfl, rfl, rfl, rfl, trivial⟩, hH⟩
        ·
          replace h := Sh.ite_neg hb h
          obtain rfl := Sh.some_inj h
          have e := hd_2 _ rfl
          subst e
          refine WpC.exit ?_
          exact ⟨(arrow_1, ()), ⟨rfl, rfl, rfl, rfl, rfl, rfl, rfl, rfl, rfl, trivial⟩, hk_2, hH⟩
      ·
        rintro ⟨arrow_2, _⟩ env H' ⟨h, hH⟩
        try dsimp only at h
        refine ⟨_, Heap.le_refl _, ?_⟩
        refine WpC.seqR ?_
        refine WpOps.pn 1 rfl trivial ?_
        obtain ⟨b_15, g_15, h⟩ := Sh.bind_some h
        refine WpOps.cutB 5 129 (bA b_15) rfl ?_ ?_
        ·
          refine WpOps.pn 1 rfl trivial ?_
          refine WpOps.split 125 rfl (fun hb => ?_) (fun hb => ?_)
          ·
            replace g_15 := Sh.ite_pos hb g_15
            refine WpOps.pn 4 rfl trivial ?_
            refine WpOps.nil ?_
            obtain rfl := Sh.some_inj g_15
            exact ⟨rfl, rfl⟩
          ·
            replace g_15 := Sh.ite_neg hb g_15
            refine WpOps.pn 4 rfl trivial ?_
            refine WpOps.nil ?_
            obtain rfl := Sh.some_inj g_15
            exact ⟨rfl, rfl⟩
        intro env
        obtain ⟨b_16, g_16, h⟩ := Sh.bind_some h
        refine WpOps.cutB 4 133 (bA b_16) rfl ?_ ?_
        ·
          refine WpOps.pn 1 rfl trivial ?_
          refine WpOps.split 130 rfl (fun hb => ?_) (fun hb => ?_)
          ·
            replace g_16 := Sh.ite_pos hb g_16
            refine WpOps.pn 3 rfl trivial ?_
            refine WpOps.nil ?_
            obtain rfl := Sh.some_inj g_16
            exact ⟨rfl, rfl⟩
          ·
            replace g_16 := Sh.ite_neg hb g_16
            refine WpOps.pn 3 rfl trivial ?_
            refine WpOps.nil ?_
            obtain rfl := Sh.some_inj g_16
            exact ⟨rfl, rfl⟩
        intro env
        obtain ⟨b_17, g_17, h⟩ := Sh.bind_some h
        refine WpOps.cutB 4 137 (bA b_17) rfl ?_ ?_
        ·
          refine WpOps.pn 1 rfl trivial ?_
          refine WpOps.split 134 rfl (fun hb => ?_) (fun hb => ?_)
          ·
            replace g_17 := Sh.ite_pos hb g_17
            refine WpOps.pn 3 rfl trivial ?_
            refine WpOps.nil ?_
            obtain rfl := Sh.some_inj g_17
            exact ⟨rfl, rfl⟩
          ·
            replace g_17 := Sh.ite_neg hb g_17
            refine WpOps.pn 3 rfl trivial ?_
            refine WpOps.nil ?_
            obtain rfl := Sh.some_inj g_17
            exact ⟨rfl, rfl⟩
        intro env
        obtain ⟨b_18, g_18, h⟩ := Sh.bind_some h
        refine WpOps.cutB 15 152 (bA b_18) rfl ?_ ?_
        ·
          refine WpOps.pn 1 rfl trivial ?_
          refine WpOps.split 138 rfl (fun hb => ?_) (fun hb => ?_)
          ·
            replace g_18 := Sh.ite_pos hb g_18
            refine WpOps.pn 1 rfl trivial ?_
            obtain ⟨b_19, g_19, g_18⟩ := Sh.bind_some g_18
            refine WpOps.cutB 12 151 (bA b_19) rfl ?_ ?_
            ·
              refine WpOps.pn 1 rfl trivial ?_
              refine WpOps.split 140 rfl (fun hb => ?_) (fun hb => ?_)
              ·
                replace g_19 := Sh.ite_pos hb g_19
                refine WpOps.pn 11 rfl trivial ?_
                refine WpOps.nil ?_
                obtain rfl := Sh.some_inj g_19
                exact ⟨rfl, rfl⟩
              ·
                replace g_19 := Sh.ite_neg hb g_19
                refine WpOps.pn 3 rfl trivial ?_
                obtain ⟨b_20, g_20, g_19⟩ := Sh.bind_some g_19
                refine WpOps.cutB 3 146 (bA b_20) rfl ?_ ?_
                ·
                  refine WpOps.pn 1 rfl trivial ?_
                  refine WpOps.split 144 rfl (fun hb => ?_) (fun hb => ?_)
                  ·
                    replace g_20 := Sh.ite_pos hb g_20
                    refine WpOps.pn 2 rfl trivial ?_
                    refine WpOps.nil ?_
                    obtain rfl := Sh.some_inj g_20
                    exact ⟨rfl, rfl⟩
                  ·
                    replace g_20 := Sh.ite_neg hb g_20
                    refine WpOps.pn 2 rfl trivial ?_
                    refine WpOps.nil ?_
                    obtain rfl := Sh.some_inj g_20
                    exact ⟨rfl, rfl⟩
                intro env
                obtain ⟨b_21, g_21, g_19⟩ := Sh.bind_some g_19
                refine WpOps.cutB 4 150 (bA b_21) rfl ?_ ?_
                ·
                  refine WpOps.pn 1 rfl trivial ?_
                  refine WpOps.split 147 rfl (fun hb => ?_) (fun hb => ?_)
                  ·
                    replace g_21 := Sh.ite_pos hb g_21
                    refine WpOps.pn 3 rfl trivial ?_
                    refine WpOps.nil ?_
                    obtain rfl := Sh.some_inj g_21
                    exact ⟨rfl, rfl⟩
                  ·
                    replace g_21 := Sh.ite_neg hb g_21
                    refine WpOps.pn 3 rfl trivial ?_
                    refine WpOps.nil ?_
                    obtain rfl := Sh.some_inj g_21
                    exact ⟨rfl, rfl⟩
                intro env
                refine WpOps.pn 1 rfl trivial ?_
                refine WpOps.nil ?_
                obtain rfl := Sh.some_inj g_19
                exact ⟨rfl, rfl⟩
            intro env
            refine WpOps.pn 1 rfl trivial ?_
            refine WpOps.nil ?_
            obtain rfl := Sh.some_inj g_18
            exact ⟨rfl, rfl⟩
          ·
            replace g_18 := Sh.ite_neg hb g_18
            refine WpOps.pn 14 rfl trivial ?_
            refine WpOps.nil ?_
            obtain rfl := Sh.some_inj g_18
            exact ⟨rfl, rfl⟩
        intro env
        refine WpOps.pn 1 rfl trivial ?_
        refine WpOps.nil ?_
        obtain rfl := Sh.some_inj h
        refine WpC.ret ?_
        exact VEnds.ret1 rfl rfl ⟨rfl, hH⟩

theorem w_direct_Word {H0 : Heap} (hG : Glob H0) {kind_1 : Int} {r : List UInt8} (h : direct_Word kind_1 = some r) : TCall Tryd.prog 26 [(iA kind_1)] H0 (fun v H' => v = (sA r) ∧ H' = H0) noE := by
  refine id (TCall.body Tryd.func26 rfl rfl ?_)
  have hH : Holds H0 [] H0 := rfl
  refine WpC.seqR ?_
  refine WpOps.pn 1 rfl trivial ?_
  refine WpOps.nil ?_
  refine WpC.seq ?_
  refine WpC.seqR ?_
  refine WpOps.pn 2 rfl trivial ?_
  obtain ⟨b_1, g_1, h⟩ := Sh.bind_some h
  refine WpOps.cutB 4 8 (bA b_1) rfl ?_ ?_
  ·
    refine WpOps.pn 1 rfl trivial ?_
    refine WpOps.split 5 rfl (fun hb => ?_) (fun hb => ?_)
    ·
      replace g_1 := Sh.ite_pos hb g_1
      refine WpOps.pn 3 rfl trivial ?_
      refine WpOps.nil ?_
      obtain rfl := Sh.some_inj g_1
      exact ⟨rfl, rfl⟩
    ·
      replace g_1 := Sh.ite_neg hb g_1
      refine WpOps.pn 3 rfl trivial ?_
      refine WpOps.nil ?_
      obtain rfl := Sh.some_inj g_1
      exact ⟨rfl, rfl⟩
  intro env
  refine WpOps.nil ?_
  refine WpC.condB rfl (fun hb => ?_) (fun hb => ?_)
  ·
    replace h := Sh.ite_pos hb h
    refine WpC.seqR ?_
    refine WpOps.pn 1 rfl trivial ?_
    refine WpOps.nil ?_
    obtain rfl := Sh.some_inj h
    refine WpC.ret ?_
    exact VEnds.ret1 rfl rfl ⟨rfl, hH⟩
  ·
    replace h := Sh.ite_neg hb h
    refine WpC.skipD ?_
    refine ⟨_, Heap.le_refl _, ?_⟩
    refine WpC.seqR ?_
    obtain ⟨c_1, h⟩ := Sh.chk_some h
    obtain ⟨y_1, hy_1, h⟩ := Sh.bind_some h
    refine WpOps.pn 2 rfl c_1 ?_
    refine WpOps.consE (v := (.lit (.pointer (some ⟨0, ((kind_1 - (2 : Int))).toNat, none⟩)))) rfl rfl (Exact.ixg hy_1 rfl rfl rfl rfl rfl (by kernel_rfl)) ?_
    refine WpOps.consE (v := (sA y_1)) rfl rfl (Exact.ldg hy_1 (hG.up hH).words rfl rfl rfl) ?_
    refine WpOps.pn 1 rfl trivial ?_
    refine WpOps.nil ?_
    obtain rfl := Sh.some_inj h
    refine WpC.ret ?_
    exact VEnds.ret1 rfl rfl ⟨rfl, hH⟩

theorem w_emendlaw04_DirectWords {H0 : Heap} (hG : Glob H0) {word_1 : List UInt8} {kind_1 : Int} {r : Bool} (h : emendlaw04_DirectWords word_1 kind_1 = some r) : TCall Tryd.prog 8 [(sA word_1), (iA kind_1)] H0 (fun v H' => v = (bA r) ∧ H' = H0) noE := by
  refine id (TCall.body Tryd.func8 rfl rfl ?_)
  have hH : Holds H0 [] H0 := rfl
  refine WpC.seqR ?_
  refine WpOps.pn 1 rfl trivial ?_
  refine WpOps.nil ?_
  refine WpC.seqR ?_
  obtain ⟨r_1, hr_1, h⟩ := Sh.bind_some h
  refine WpOps.consE (v := (bA r_1)) rfl rfl (Exact.call rfl rfl rfl (w_emendlaw04_awake (hG.up hH) hr_1)) ?_
  refine WpOps.pn 1 rfl trivial ?_
  refine WpOps.nil ?_
  refine WpC.seqR ?_
  obtain ⟨r_2, hr_2, h⟩ := Sh.bind_some h
  refine WpOps.pn 1 rfl trivial ?_
  refine WpOps.consE (v := (iA r_2)) rfl rfl (Exact.call rfl rfl rfl (w_direct_Kind (hG.up hH) hr_2)) ?_
  refine WpOps.pn 1 rfl trivial ?_
  refine WpOps.nil ?_
  refine WpC.seqR ?_
  obtain ⟨r_3, hr_3, h⟩ := Sh.bind_some h
  refine WpOps.pn 1 rfl trivial ?_
  refine WpOps.consE (v := (sA r_3)) rfl rfl (Exact.call rfl rfl rfl (w_direct_Word (hG.up hH) hr_3)) ?_
  refine WpOps.pn 1 rfl trivial ?_
  refine WpOps.nil ?_
  refine WpC.seqR ?_
  obtain ⟨r_4, hr_4, h⟩ := Sh.bind_some h
  refine WpOps.pn 1 rfl trivial ?_
  refine WpOps.consE (v := (iA r_4)) rfl rfl (Exact.call rfl rfl rfl (w_direct_Kind (hG.up hH) hr_4)) ?_
  refine WpOps.pn 1 rfl trivial ?_
  refine WpOps.nil ?_
  refine WpC.seqR ?_
  obtain ⟨r_5, hr_5, h⟩ := Sh.bind_some h
  refine WpOps.pn 1 rfl trivial ?_
  refine WpOps.consE (v := (sA r_5)) rfl rfl (Exact.call rfl rfl rfl (w_direct_Word (hG.up hH) hr_5)) ?_
  refine WpOps.pn 1 rfl trivial ?_
  refine WpOps.nil ?_
  refine WpC.seqR ?_
  refine WpOps.pn 1 rfl trivial ?_
  obtain ⟨b_1, g_1, h⟩ := Sh.bind_some h
  refine WpOps.cutB 6 25 (bA b_1) rfl ?_ ?_
  ·
    refine WpOps.pn 1 rfl trivial ?_
    refine WpOps.split 20 rfl (fun hb => ?_) (fun hb => ?_)
    ·
      replace g_1 := Sh.ite_pos hb g_1
      obtain ⟨r_6, hr_6, g_1⟩ := Sh.bind_some g_1
      refine WpOps.pn 2 rfl trivial ?_
      refine WpOps.consE (v := (iA r_6)) rfl rfl (Exact.call rfl rfl rfl (w_emendref04_Kind hr_6)) ?_
      refine WpOps.pn 2 rfl trivial ?_
      refine WpOps.nil ?_
      obtain rfl := Sh.some_inj g_1
      exact ⟨rfl, rfl⟩
    ·
      replace g_1 := Sh.ite_neg hb g_1
      refine WpOps.pn 5 rfl trivial ?_
      refine WpOps.nil ?_
      obtain rfl := Sh.some_inj g_1
      exact ⟨rfl, rfl⟩
  intro env
  obtain ⟨b_2, g_2, h⟩ := Sh.bind_some h
  refine WpOps.cutB 17 42 (bA b_2) rfl ?_ ?_
  ·
    refine WpOps.pn 1 rfl trivial ?_
    refine WpOps.split 26 rfl (fun hb => ?_) (fun hb => ?_)
    ·
      replace g_2 := Sh.ite_pos hb g_2
      refine WpOps.pn 2 rfl trivial ?_
      obtain ⟨b_3, g_3, g_2⟩ := Sh.bind_some g_2
      refine WpOps.cutB 4 32 (bA b_3) rfl ?_ ?_
      ·
        refine WpOps.pn 1 rfl trivial ?_
        refine WpOps.split 29 rfl (fun hb => ?_) (fun hb => ?_)
        ·
          replace g_3 := Sh.ite_pos hb g_3
          refine WpOps.pn 3 rfl trivial ?_
          refine WpOps.nil ?_
          obtain rfl := Sh.some_inj g_3
          exact ⟨rfl, rfl⟩
        ·
          replace g_3 := Sh.ite_neg hb g_3
          refine WpOps.pn 3 rfl trivial ?_
          refine WpOps.nil ?_
          obtain rfl := Sh.some_inj g_3
          exact ⟨rfl, rfl⟩
      intro env
      obtain ⟨b_4, g_4, g_2⟩ := Sh.bind_some g_2
      refine WpOps.cutB 9 41 (bA b_4) rfl ?_ ?_
      ·
        refine WpOps.pn 1 rfl trivial ?_
        refine WpOps.split 33 rfl (fun hb => ?_) (fun hb => ?_)
        ·
          replace g_4 := Sh.ite_pos hb g_4
          refine WpOps.pn 8 rfl trivial ?_
          refine WpOps.nil ?_
          obtain rfl := Sh.some_inj g_4
          exact ⟨rfl, rfl⟩
        ·
          replace g_4 := Sh.ite_neg hb g_4
          refine WpOps.pn 2 rfl trivial ?_
          obtain ⟨b_5, g_5, g_4⟩ := Sh.bind_some g_4
          refine WpOps.cutB 5 40 (bA b_5) rfl ?_ ?_
          ·
            refine WpOps.pn 1 rfl trivial ?_
            refine WpOps.split 36 rfl (fun hb => ?_) (fun hb => ?_)
            ·
              replace g_5 := Sh.ite_pos hb g_5
              refine WpOps.pn 4 rfl trivial ?_
              refine WpOps.nil ?_
              obtain rfl := Sh.some_inj g_5
              exact ⟨rfl, rfl⟩
            ·
              replace g_5 := Sh.ite_neg hb g_5
              refine WpOps.pn 4 rfl trivial ?_
              refine WpOps.nil ?_
              obtain rfl := Sh.some_inj g_5
              exact ⟨rfl, rfl⟩
          intro env
          refine WpOps.pn 1 rfl trivial ?_
          refine WpOps.nil ?_
          obtain rfl := Sh.some_inj g_4
          exact ⟨rfl, rfl⟩
      intro env
      refine WpOps.pn 1 rfl trivial ?_
      refine WpOps.nil ?_
      obtain rfl := Sh.some_inj g_2
      exact ⟨rfl, rfl⟩
    ·
      replace g_2 := Sh.ite_neg hb g_2
      refine WpOps.pn 16 rfl trivial ?_
      refine WpOps.nil ?_
      obtain rfl := Sh.some_inj g_2
      exact ⟨rfl, rfl⟩
  intro env
  obtain ⟨b_6, g_6, h⟩ := Sh.bind_some h
  refine WpOps.cutB 21 63 (bA b_6) rfl ?_ ?_
  ·
    refine WpOps.pn 1 rfl trivial ?_
    refine WpOps.split 43 rfl (fun hb => ?_) (fun hb => ?_)
    ·
      replace g_6 := Sh.ite_pos hb g_6
      refine WpOps.pn 2 rfl trivial ?_
      obtain ⟨b_7, g_7, g_6⟩ := Sh.bind_some g_6
      refine WpOps.cutB 4 49 (bA b_7) rfl ?_ ?_
      ·
        refine WpOps.pn 1 rfl trivial ?_
        refine WpOps.split 46 rfl (fun hb => ?_) (fun hb => ?_)
        ·
          replace g_7 := Sh.ite_pos hb g_7
          refine WpOps.pn 3 rfl trivial ?_
          refine WpOps.nil ?_
          obtain rfl := Sh.some_inj g_7
          exact ⟨rfl, rfl⟩
        ·
          replace g_7 := Sh.ite_neg hb g_7
          refine WpOps.pn 3 rfl trivial ?_
          refine WpOps.nil ?_
          obtain rfl := Sh.some_inj g_7
          exact ⟨rfl, rfl⟩
      intro env
      obtain ⟨b_8, g_8, g_6⟩ := Sh.bind_some g_6
      refine WpOps.cutB 5 54 (bA b_8) rfl ?_ ?_
      ·
        refine WpOps.pn 1 rfl trivial ?_
        refine WpOps.split 50 rfl (fun hb => ?_) (fun hb => ?_)
        ·
          replace g_8 := Sh.ite_pos hb g_8
          refine WpOps.pn 4 rfl trivial ?_
          refine WpOps.nil ?_
          obtain rfl := Sh.some_inj g_8
          exact ⟨rfl, rfl⟩
        ·
          replace g_8 := Sh.ite_neg hb g_8
          refine WpOps.pn 4 rfl trivial ?_
          refine WpOps.nil ?_
          obtain rfl := Sh.some_inj g_8
          exact ⟨rfl, rfl⟩
      intro env
      obtain ⟨b_9, g_9, g_6⟩ := Sh.bind_some g_6
      refine WpOps.cutB 8 62 (bA b_9) rfl ?_ ?_
      ·
        refine WpOps.pn 1 rfl trivial ?_
        refine WpOps.split 55 rfl (fun hb => ?_) (fun hb => ?_)
        ·
          replace g_9 := Sh.ite_pos hb g_9
          refine WpOps.pn 7 rfl trivial ?_
          refine WpOps.nil ?_
          obtain rfl := Sh.some_inj g_9
          exact ⟨rfl, rfl⟩
        ·
          replace g_9 := Sh.ite_neg hb g_9
          refine WpOps.pn 2 rfl trivial ?_
          obtain ⟨b_10, g_10, g_9⟩ := Sh.bind_some g_9
          refine WpOps.cutB 4 61 (bA b_10) rfl ?_ ?_
          ·
            refine WpOps.pn 1 rfl trivial ?_
            refine WpOps.split 58 rfl (fun hb => ?_) (fun hb => ?_)
            ·
              replace g_10 := Sh.ite_pos hb g_10
              refine WpOps.pn 3 rfl trivial ?_
              refine WpOps.nil ?_
              obtain rfl := Sh.some_inj g_10
              exact ⟨rfl, rfl⟩
            ·
              replace g_10 := Sh.ite_neg hb g_10
              refine WpOps.pn 3 rfl trivial ?_
              refine WpOps.nil ?_
              obtain rfl := Sh.some_inj g_10
              exact ⟨rfl, rfl⟩
          intro env
          refine WpOps.pn 1 rfl trivial ?_
          refine WpOps.nil ?_
          obtain rfl := Sh.some_inj g_9
          exact ⟨rfl, rfl⟩
      intro env
      refine WpOps.pn 1 rfl trivial ?_
      refine WpOps.nil ?_
      obtain rfl := Sh.some_inj g_6
      exact ⟨rfl, rfl⟩
    ·
      replace g_6 := Sh.ite_neg hb g_6
      refine WpOps.pn 20 rfl trivial ?_
      refine WpOps.nil ?_
      obtain rfl := Sh.some_inj g_6
      exact ⟨rfl, rfl⟩
  intro env
  refine WpOps.pn 1 rfl trivial ?_
  refine WpOps.nil ?_
  obtain rfl := Sh.some_inj h
  refine WpC.ret ?_
  exact VEnds.ret1 rfl rfl ⟨rfl, hH⟩

end Go.Proofs.YtghnfeflknfclaaDoor
