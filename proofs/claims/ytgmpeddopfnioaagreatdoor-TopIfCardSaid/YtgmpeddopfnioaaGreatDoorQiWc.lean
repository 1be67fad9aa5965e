/-
  Part of the proof of If.
-/
import Derived.Test.YtgmpeddopfnioaaGreatDoorQiWb

set_option linter.unusedVariables false
set_option linter.unusedSimpArgs false
set_option maxRecDepth 20000
set_option maxHeartbeats 8000000
namespace Go.Proofs.YtgmpeddopfnioaaGreatDoor
open Go Go.Vc Go.Sh
attribute [local irreducible] WpC WpOps WpPi WpPj WpO Exact TCall VEnds Sh.loopS DEnds
theorem w_glue_Paste {H0 : Heap} (hG : Glob H0) {a_1 : GTok} {b_1 : GTok} {r : GTok × Int} (h : glue_Paste a_1 b_1 = some r) : TCall Tryz.prog 197 [(AV.agg (cGTok a_1)), (AV.agg (cGTok b_1))] H0 (fun v H' => v = (.tup [(AV.agg (cGTok r.1)), (iA r.2)]) ∧ H' = H0) noE := by
  unfold glue_Paste at h; cases h
theorem w_expand_pasted {H0 H : Heap} (hG : Glob H0)  {l_1 : List GExpand_token} {r : List GExpand_token × Int} (h : expand_pasted l_1 = some r) (hH : Holds H0 [] H) : TCall Tryz.prog 187 [(AV.rows 9 (List.map cGExpand_token l_1))] H (fun v H' => ∃ b : (Option (Nat × Nat)), v = (.tup [.own (List.map cGExpand_token r.1).length b, (iA r.2)]) ∧ Holds H0 [.own 255 9 b (List.map cGExpand_token r.1)] H') noE := by
  refine id (TCall.body Tryz.func187 rfl rfl ?_)
  refine uC ?_
  refine uA 2 rfl trivial ?_
  refine WpOps.nil ?_
  refine uC ?_
  refine uA 1 rfl trivial ?_
  have hH := hH.nil 255 9
  refine WpOps.nil ?_
  refine WpC.seq ?_
  refine uC ?_
  refine uA 1 rfl trivial ?_
  refine WpOps.nil ?_
  refine vA (fun x : (List GExpand_token) × ((Option (Nat × Nat))) => [(4, (.own (List.map cGExpand_token x.1).length x.2))]) (fun x H' => expand_pasted_j1 x.1 = some r ∧ Holds H0 [.own 255 9 x.2 (List.map cGExpand_token x.1)] H') ?_ ?_
  ·
    obtain ⟨o_1, ho_1, hk_1⟩ := Sh.bind_some h
    refine uX (expand_pasted_b2 l_1) (fun (s : Int × List GExpand_token) (a : (Option (Nat × Nat))) => [(0, (AV.rows 9 (List.map cGExpand_token l_1))), (4, (.own (List.map cGExpand_token s.2).length a)), (5, (iA s.1))]) (fun (s : Int × List GExpand_token) (a : (Option (Nat × Nat))) H' => Holds H0 [.own 255 9 a (List.map cGExpand_token s.2)] H') o_1 ((0 : Int), ([] : List GExpand_token)) none ho_1 ⟨rfl, rfl, rfl, trivial⟩ hH ?_
    rintro ⟨i_1, out_1⟩ p_1 st_1 env H' h hd_1 hH
    refine WpC.seq ?_
    refine uC ?_
    refine uA 3 rfl trivial ?_
    refine uN 12 (len_map _ _) ?_
    refine uA 1 rfl trivial ?_
    refine WpOps.nil ?_
    refine uF rfl (fun hb => ?_) (fun hb => ?_)
    ·
      replace h := Sh.ite_pos hb h
      refine uI ?_
      refine ⟨_, uD _, ?_⟩
      refine WpC.seq ?_
      refine WpC.block ?_
      refine WpC.seq ?_
      refine uC ?_
      obtain ⟨y_1, hy_1, h⟩ := Sh.bind_some h
      refine uA 2 rfl trivial ?_
      refine uB (v := (.rop (cGExpand_token y_1))) rfl rfl (uR cGExpand_token hy_1 rfl rfl rfl rfl (by kernel_rfl) (by decide)) ?_
      refine uA 1 rfl trivial ?_
      refine uB (v := (bA y_1.op)) rfl rfl (uG rfl rfl rfl) ?_
      refine uA 1 rfl trivial ?_
      obtain ⟨b_1, g_1, h⟩ := Sh.bind_some h
      refine uM 5 26 (bA b_1) rfl ?_ ?_
      ·
        refine uA 1 rfl trivial ?_
        refine uL 22 rfl (fun hb => ?_) (fun hb => ?_)
        ·
          replace g_1 := Sh.ite_pos hb g_1
          refine uA 4 rfl trivial ?_
          refine WpOps.nil ?_
          obtain rfl := Sh.some_inj g_1
          exact ⟨rfl, rfl⟩
        ·
          replace g_1 := Sh.ite_neg hb g_1
          refine uA 2 rfl trivial ?_
          refine uN 24 (len_map _ _) ?_
          refine uA 2 rfl trivial ?_
          refine WpOps.nil ?_
          obtain rfl := Sh.some_inj g_1
          exact ⟨rfl, rfl⟩
      intro env
      obtain ⟨b_2, g_2, h⟩ := Sh.bind_some h
      refine uM 7 33 (bA b_2) rfl ?_ ?_
      ·
        refine uA 1 rfl trivial ?_
        refine uL 27 rfl (fun hb => ?_) (fun hb => ?_)
        ·
          replace g_2 := Sh.ite_pos hb g_2
          refine uA 6 rfl trivial ?_
          refine WpOps.nil ?_
          obtain rfl := Sh.some_inj g_2
          exact ⟨rfl, rfl⟩
        ·
          replace g_2 := Sh.ite_neg hb g_2
          obtain ⟨c_1, g_2⟩ := Sh.chk_some g_2
          refine uA 4 rfl c_1 ?_
          refine uN 31 (len_map _ _) ?_
          refine uA 2 rfl trivial ?_
          refine WpOps.nil ?_
          obtain rfl := Sh.some_inj g_2
          exact ⟨rfl, rfl⟩
      intro env
      refine WpOps.nil ?_
      refine uF rfl (fun hb => ?_) (fun hb => ?_)
      ·
        replace h := Sh.ite_pos hb h
        refine uC ?_
        obtain ⟨y_2, hy_2, h⟩ := Sh.bind_some h
        refine uA 3 rfl trivial ?_
        refine uB (v := (.rop (cGExpand_token y_2))) rfl rfl (uR cGExpand_token hy_2 rfl rfl rfl rfl (by kernel_rfl) (by decide)) ?_
        refine uB (v := (AV.agg (cGExpand_token y_2))) rfl rfl (uG rfl rfl rfl) ?_
        refine uB (v := (AV.rows 9 (List.map cGExpand_token ([y_2] : List GExpand_token)))) rfl rfl (uW rfl (by kernel_rfl)) ?_
        obtain ⟨c_2, h⟩ := Sh.chk_some h
        refine uE rfl rfl (vL cGExpand_token out_1 ([y_2] : List GExpand_token) (i := 0) rfl ek228 hH rfl rfl rfl (.rows _) (fun y _ => one_cGExpand_token y) (by simp) c_2 (by decide) fun p_2 H' hH => ?_)
        refine uA 1 rfl trivial ?_
        refine WpOps.nil ?_
        refine WpC.exitD ?_
        refine ⟨_, uD _, ?_⟩
        refine uJ ?_
        obtain ⟨c_3, h⟩ := Sh.chk_some h
        refine uA 3 rfl c_3 ?_
        refine WpOps.nil ?_
        obtain rfl := Sh.some_inj h
        exact ⟨_, (uD _), ((i_1 + (1 : Int)), (out_1 ++ ([y_2] : List GExpand_token))), p_2, rfl, ⟨rfl, rfl, rfl, trivial⟩, hH⟩
      ·
        replace h := Sh.ite_neg hb h
        refine uI ?_
        refine ⟨_, uD _, ?_⟩
        refine uC ?_
        obtain ⟨c_4, h⟩ := Sh.chk_some h
        refine uA 3 rfl c_4 ?_
        refine WpOps.nil ?_
        refine wJ (fun H => RowAt H 255 9 p_1 (List.map cGExpand_token out_1) ∧ Glob H ∧ True) [.I, .I, .I, .I, .I, .I, .I, .I, .I, .E, .I, .E] [0, 1, 2, 3, 4, 5, 6, 7, 8, 9, 10, 11] (by kernel_rfl) (by kernel_rfl) ⟨hH.rowAt (i := 0) rfl, hG.up hH, trivial⟩ ?_
        refine uK 3 rfl trivial ?_
        refine WpPi.at 45 (len_map _ _) ?_
        obtain ⟨c_5, h⟩ := Sh.chk_some h
        obtain ⟨y_3, hy_3, h⟩ := Sh.bind_some h
        refine uK 1 rfl c_5 ?_
        have hq_1 := h; have hq_2 := hH
        obtain ⟨g_3, cp_1, rfl⟩ := hq_2.grown (i := 0) rfl (ne_of_ix hy_3)
        have h := hq_1; have hH := hq_2
        refine vD rfl rfl rfl rfl (fun _ hi => vP (size := 9) cGExpand_token hy_3 rfl rfl rfl rfl (by kernel_rfl) (by decide)) ?_
        obtain ⟨y_4, hy_4, h⟩ := Sh.bind_some h
        refine uK 2 rfl trivial ?_
        refine uV (v := (.rop (cGExpand_token y_4))) rfl rfl rfl rfl (fun _ => uR cGExpand_token hy_4 rfl rfl rfl rfl (by kernel_rfl) (by decide)) ?_
        refine uV (v := (AV.agg (cGExpand_token y_4))) rfl rfl rfl rfl (fun _ => uG rfl rfl rfl) ?_
        refine vE rfl rfl rfl rfl (vK (z' := cGExpand_token (GExpand_token.mk (GTok.mk (0 : Int) ([] : List UInt8) (0 : Int) (0 : Int) (0 : Int) false) ([] : List (List UInt8)) false false)) rfl rfl (.cons (.refl _) (.cons (.refl _) (.cons (.refl _) (.cons (.refl _) (.cons (.refl _) (.cons (.refl _) (.cons (Sub.nil _) (.cons (.refl _) (.cons (.refl _) .nil))))))))) hH fun g_4 H' hH => ⟨⟨hH.rowAt (i := 1) rfl, hG.up hH, trivial⟩, ?_⟩)
        refine uK 1 rfl trivial ?_
        refine vE rfl rfl rfl rfl (uQ (cs' := (cGExpand_token y_4)) (v := (AV.agg (cGExpand_token y_4))) rfl rfl hH (i := 0) rfl rfl rfl rfl rfl rfl rfl fun H' hH => ⟨⟨hH.rowAt (i := 1) rfl, hG.up hH, trivial⟩, ?_⟩)
        refine WpPi.nil ?_
        refine WpC.block ?_
        refine uC ?_
        refine uA 1 rfl trivial ?_
        refine uB (v := (bA y_4.mark)) rfl rfl (Exact.load rfl rfl (hH.cell (i := 0) rfl) rfl rfl) ?_
        refine uA 1 rfl trivial ?_
        refine WpOps.nil ?_
        refine uF rfl (fun hb => ?_) (fun hb => ?_)
        ·
          replace h := Sh.ite_pos hb h
          refine uI ?_
          refine ⟨_, uD _, ?_⟩
          refine uJ ?_
          obtain ⟨c_6, h⟩ := Sh.chk_some h
          refine uA 3 rfl c_6 ?_
          refine WpOps.nil ?_
          obtain ⟨_, hle_1, hH⟩ := hH.lose_ (i := 0) rfl
          obtain rfl := Sh.some_inj h
          exact ⟨_, hle_1, (((i_1 + (1 : Int)) + (1 : Int)), out_1), (some (g_3, cp_1)), rfl, ⟨rfl, rfl, rfl, trivial⟩, hH⟩
        ·
          replace h := Sh.ite_neg hb h
          refine uC ?_
          refine uA 3 rfl trivial ?_
          refine uB (v := (bA y_3.mark)) rfl rfl (Exact.ldo (off := 7) (i := 1) cGExpand_token hy_3 hH rfl rfl rfl (by decide) rfl) ?_
          refine uA 1 rfl trivial ?_
          refine WpOps.nil ?_
          refine uF rfl (fun hb => ?_) (fun hb => ?_)
          ·
            replace h := Sh.ite_pos hb h
            refine uC ?_
            refine uA 4 rfl trivial ?_
            refine uB (v := (bA y_3.tok.blank)) rfl rfl (Exact.ldo (off := 5) (i := 1) cGExpand_token hy_3 hH rfl rfl rfl (by decide) rfl) ?_
            refine uA 2 rfl trivial ?_
            refine uE rfl rfl (uQ (cs' := (cGExpand_token (GExpand_token.mk (GTok.mk y_4.tok.kind y_4.tok.text y_4.tok.file_ y_4.tok.from_ y_4.tok.to y_3.tok.blank) y_4.hide y_4.mark y_4.op))) (v := (bA y_3.tok.blank)) rfl rfl hH (i := 0) rfl rfl rfl rfl rfl rfl rfl fun H' hH => ?_)
            refine WpOps.nil ?_
            refine uJ ?_
            refine uA 1 rfl trivial ?_
            refine uB (v := (AV.agg (cGExpand_token (GExpand_token.mk (GTok.mk y_4.tok.kind y_4.tok.text y_4.tok.file_ y_4.tok.from_ y_4.tok.to y_3.tok.blank) y_4.hide y_4.mark y_4.op)))) rfl rfl (Exact.load rfl rfl (hH.cell (i := 0) rfl) rfl rfl) ?_
            refine uA 1 rfl trivial ?_
            refine uE rfl rfl (wA (off := 0) (i := 1) cGExpand_token (y' := (GExpand_token.mk (GTok.mk y_4.tok.kind y_4.tok.text y_4.tok.file_ y_4.tok.from_ y_4.tok.to y_3.tok.blank) y_4.hide y_4.mark y_4.op)) (v := (AV.agg (cGExpand_token (GExpand_token.mk (GTok.mk y_4.tok.kind y_4.tok.text y_4.tok.file_ y_4.tok.from_ y_4.tok.to y_3.tok.blank) y_4.hide y_4.mark y_4.op)))) hy_3 hH rfl rfl rfl rfl rfl rfl rfl rfl rfl fun H' hH => ?_)
            refine uN 4 (own_set cGExpand_token out_1 (((out_1.length : Int) - (1 : Int))).toNat (GExpand_token.mk (GTok.mk y_4.tok.kind y_4.tok.text y_4.tok.file_ y_4.tok.from_ y_4.tok.to y_3.tok.blank) y_4.hide y_4.mark y_4.op) _) ?_
            refine uN 43 (own_set cGExpand_token out_1 (((out_1.length : Int) - (1 : Int))).toNat (GExpand_token.mk (GTok.mk y_4.tok.kind y_4.tok.text y_4.tok.file_ y_4.tok.from_ y_4.tok.to y_3.tok.blank) y_4.hide y_4.mark y_4.op) _) ?_
            refine uN 44 (own_set cGExpand_token out_1 (((out_1.length : Int) - (1 : Int))).toNat (GExpand_token.mk (GTok.mk y_4.tok.kind y_4.tok.text y_4.tok.file_ y_4.tok.from_ y_4.tok.to y_3.tok.blank) y_4.hide y_4.mark y_4.op) _) ?_
            refine WpOps.nil ?_
            refine ⟨_, uD _, ?_⟩
            refine uJ ?_
            obtain ⟨c_7, h⟩ := Sh.chk_some h
            refine uA 3 rfl c_7 ?_
            refine WpOps.nil ?_
            obtain ⟨_, hle_2, hH⟩ := hH.lose_ (i := 0) rfl
            obtain rfl := Sh.some_inj h
            exact ⟨_, hle_2, (((i_1 + (1 : Int)) + (1 : Int)), (out_1.set (((out_1.length : Int) - (1 : Int))).toNat (GExpand_token.mk (GTok.mk y_4.tok.kind y_4.tok.text y_4.tok.file_ y_4.tok.from_ y_4.tok.to y_3.tok.blank) y_4.hide y_4.mark y_4.op))), (some (g_3, cp_1)), rfl, ⟨rfl, rfl, rfl, trivial⟩, hH⟩
          ·
            replace h := Sh.ite_neg hb h
            refine wJ (fun H => H g_4 = some (.cells 255 (cGExpand_token y_4)) ∧ RowAt H 255 9 (some (g_3, cp_1)) (List.map cGExpand_token out_1) ∧ Glob H ∧ True) [.I, .I, .I, .I, .I, .I, .I, .I, .I, .I, .E, .E] [0, 1, 2, 3, 4, 5, 6, 7, 8, 9, 10, 11, 12] (by kernel_rfl) (by kernel_rfl) ⟨hH.cell (i := 0) rfl, hH.rowAt (i := 1) rfl, hG.up hH, trivial⟩ ?_
            refine uK 3 rfl trivial ?_
            refine vD (v := (AV.agg (cGTok y_3.tok))) rfl rfl rfl rfl (fun _ hi => Exact.ldoR (off := 0) cGExpand_token hy_3 hi.2.1 rfl rfl (by decide) rfl) ?_
            refine uK 1 rfl trivial ?_
            refine vD (v := (AV.agg (cGTok y_4.tok))) rfl rfl rfl rfl (fun _ hi => Exact.load rfl rfl hi.1 rfl rfl) ?_
            obtain ⟨r_1, hr_1, h⟩ := Sh.bind_some h
            refine vD (v := (.tup [(AV.agg (cGTok r_1.1)), (iA r_1.2)])) rfl rfl rfl rfl (fun _ hi => Exact.call rfl rfl rfl (w_glue_Paste hi.2.2.1 hr_1)) ?_
            refine uK 3 rfl trivial ?_
            refine vE rfl rfl rfl rfl (vC (z := cGTok (GTok.mk (0 : Int) ([] : List UInt8) (0 : Int) (0 : Int) (0 : Int) false)) rfl rfl hH fun g_5 H' hH => ⟨⟨hH.cell (i := 1) rfl, hH.rowAt (i := 2) rfl, hG.up hH, trivial⟩, ?_⟩)
            refine vE rfl rfl rfl rfl (uQ (cs' := (cGTok r_1.1)) (v := (AV.agg (cGTok r_1.1))) rfl rfl hH (i := 0) rfl rfl rfl rfl rfl rfl rfl fun H' hH => ⟨⟨hH.cell (i := 1) rfl, hH.rowAt (i := 2) rfl, hG.up hH, trivial⟩, ?_⟩)
            refine uK 1 rfl trivial ?_
            refine WpPi.nil ?_
            refine WpC.seq ?_
            refine uC ?_
            refine uA 2 rfl trivial ?_
            refine WpOps.nil ?_
            refine uF rfl (fun hb => ?_) (fun hb => ?_)
            ·
              replace h := Sh.ite_pos hb h
              refine uC ?_
              refine uA 3 rfl trivial ?_
              refine WpOps.nil ?_
              have hH := hH.nil 255 9
              refine uP (i := 1) hH rfl (fun H' hH => ?_)
              refine uP (i := 1) hH rfl (fun H' hH => ?_)
              refine uP (i := 1) hH rfl (fun H' hH => ?_)
              have hH : Holds H0 [.own 255 9 none (List.map cGExpand_token ([] : List GExpand_token))] _ := hH
              obtain rfl := Sh.some_inj h
              have e := hd_1 _ rfl
              subst e
              have h := hk_1
              obtain rfl := Sh.some_inj h
              refine WpC.ret ?_
              exact uU rfl rfl rfl ⟨none, rfl, hH⟩
            ·
              replace h := Sh.ite_neg hb h
              refine uI ?_
              refine ⟨_, uD _, ?_⟩
              cases h
    ·
      replace h := Sh.ite_neg hb h
      obtain rfl := Sh.some_inj h
      have e := hd_1 _ rfl
      subst e
      refine WpC.exit ?_
      exact ⟨(out_1, p_1), ⟨rfl, trivial⟩, hk_1, hH⟩
  ·
    rintro ⟨out_2, p_3⟩ env H' ⟨h, hH⟩
    try dsimp only at h
    refine ⟨_, uD _, ?_⟩
    refine uC ?_
    refine uA 3 rfl trivial ?_
    refine WpOps.nil ?_
    have hH : Holds H0 [.own 255 9 p_3 (List.map cGExpand_token out_2)] _ := hH
    obtain rfl := Sh.some_inj h
    refine WpC.ret ?_
    exact uU rfl rfl rfl ⟨p_3, rfl, hH⟩
theorem w_expand_plain {H0 H : Heap}  {l_1 : List GExpand_token} {r : List GTok} (h : expand_plain l_1 = some r) (hH : Holds H0 [] H) : TCall Tryz.prog 133 [(AV.rows 9 (List.map cGExpand_token l_1))] H (fun v H' => ∃ b : (Option (Nat × Nat)), v = (.own (List.map cGTok r).length b) ∧ Holds H0 [.own 50 6 b (List.map cGTok r)] H') noE := by
 refine id (TCall.body Tryz.func133 rfl rfl ?_)
 refine uC ?_
 refine uA 1 rfl trivial ?_
 refine WpOps.nil ?_
 refine uC ?_
 refine uA 1 rfl trivial ?_
 have hH := hH.nil 50 6
 refine WpOps.nil ?_
 refine WpC.seq ?_
 refine uC ?_
 refine uA 2 rfl trivial ?_
 refine uN 7 (len_map _ _) ?_
 refine uA 1 rfl trivial ?_
 refine WpOps.nil ?_
 refine vA (fun x : (List GTok) × ((Option (Nat × Nat))) => [(3, (.own (List.map cGTok x.1).length x.2))]) (fun x H' => expand_plain_j1 x.1 = some r ∧ Holds H0 [.own 50 6 x.2 (List.map cGTok x.1)] H') ?_ ?_
 ·
  obtain ⟨o_1, ho_1, hk_1⟩ := Sh.bind_some h
  refine uX (expand_plain_b2 l_1) (fun (s : Int × List GTok) (a : (Option (Nat × Nat))) => [(3, (.own (List.map cGTok s.2).length a)), (6, (AV.rows 9 (List.map cGExpand_token l_1))), (7, (iA (l_1.length : Int))), (8, (iA s.1))]) (fun (s : Int × List GTok) (a : (Option (Nat × Nat))) H' => Holds H0 [.own 50 6 a (List.map cGTok s.2)] H') o_1 ((0 : Int), ([] : List GTok)) none ho_1 ⟨rfl, rfl, rfl, rfl, trivial⟩ hH ?_
  rintro ⟨t8_1, out_1⟩ p_1 st_1 env H' h hd_1 hH
  refine uC ?_
  refine uA 1 rfl trivial ?_
  refine WpOps.nil ?_
  refine WpC.seq ?_
  refine uF rfl (fun hb => ?_) (fun hb => ?_)
  ·
   replace h := Sh.ite_pos hb h
   refine uI ?_
   refine ⟨_, uD _, ?_⟩
   refine WpC.seq ?_
   refine WpC.block ?_
   refine uC ?_
   obtain ⟨y_1, hy_1, h⟩ := Sh.bind_some h
   refine uB (v := (.rop (cGExpand_token y_1))) rfl rfl (uR cGExpand_token hy_1 rfl rfl rfl rfl (by kernel_rfl) (by decide)) ?_
   refine uB (v := (AV.agg (cGExpand_token y_1))) rfl rfl (uG rfl rfl rfl) ?_
   refine uE rfl rfl (vK (z' := cGExpand_token (GExpand_token.mk (GTok.mk (0 : Int) ([] : List UInt8) (0 : Int) (0 : Int) (0 : Int) false) ([] : List (List UInt8)) false false)) rfl rfl (.cons (.refl _) (.cons (.refl _) (.cons (.refl _) (.cons (.refl _) (.cons (.refl _) (.cons (.refl _) (.cons (Sub.nil _) (.cons (.refl _) (.cons (.refl _) .nil))))))))) hH fun g_1 H' hH => ?_)
   refine uE rfl rfl (uQ (cs' := (cGExpand_token y_1)) (v := (AV.agg (cGExpand_token y_1))) rfl rfl hH (i := 0) rfl rfl rfl rfl rfl rfl rfl fun H' hH => ?_)
   refine WpOps.nil ?_
   refine uJ ?_
   refine uA 2 rfl trivial ?_
   refine uB (v := (AV.agg (cGTok y_1.tok))) rfl rfl (Exact.load rfl rfl (hH.cell (i := 0) rfl) rfl rfl) ?_
   refine uB (v := (AV.rows 6 (List.map cGTok ([y_1.tok] : List GTok)))) rfl rfl (uW rfl (by kernel_rfl)) ?_
   obtain ⟨c_1, h⟩ := Sh.chk_some h
   refine uE rfl rfl (vL cGTok out_1 ([y_1.tok] : List GTok) (i := 1) rfl ek37 hH rfl rfl rfl (.rows _) (fun y _ => one_cGTok y) (by simp) c_1 (by decide) fun p_2 H' hH => ?_)
   refine uA 1 rfl trivial ?_
   refine WpOps.nil ?_
   refine ⟨_, uD _, ?_⟩
   refine uJ ?_
   obtain ⟨c_2, h⟩ := Sh.chk_some h
   refine uA 2 rfl c_2 ?_
   refine WpOps.nil ?_
   obtain ⟨_, hle_1, hH⟩ := hH.lose_ (i := 0) rfl
   obtain rfl := Sh.some_inj h
   exact ⟨_, hle_1, ((t8_1 + (1 : Int)), (out_1 ++ ([y_1.tok] : List GTok))), p_2, rfl, ⟨rfl, rfl, rfl, rfl, trivial⟩, hH⟩
  ·
   replace h := Sh.ite_neg hb h
   obtain rfl := Sh.some_inj h
   have e := hd_1 _ rfl
   subst e
   refine WpC.exit ?_
   exact ⟨(out_1, p_1), ⟨rfl, trivial⟩, hk_1, hH⟩
 ·
  rintro ⟨out_2, p_3⟩ env H' ⟨h, hH⟩
  try dsimp only at h
  refine ⟨_, uD _, ?_⟩
  refine uC ?_
  refine uA 2 rfl trivial ?_
  refine WpOps.nil ?_
  have hH : Holds H0 [.own 50 6 p_3 (List.map cGTok out_2)] _ := hH
  obtain rfl := Sh.some_inj h
  refine WpC.ret ?_
  exact uH rfl rfl ⟨p_3, rfl, hH⟩
theorem w_glue_String {H0 : Heap} (hG : Glob H0) {l_1 : List GTok} {r : GTok} (h : glue_String l_1 = some r) : TCall Tryz.prog 198 [(AV.rows 6 (List.map cGTok l_1))] H0 (fun v H' => v = (AV.agg (cGTok r)) ∧ H' = H0) noE := by
  unfold glue_String at h; cases h
theorem w_slices_Clone_Lexpand_token_expand_token {H0 : Heap} {l : List GExpand_token} (hc : l.length * 88 ≤ 140737488355328) : TCall Tryz.prog 153 [.rows 9 (List.map cGExpand_token l)] H0 (fun v H' => ∃ p, v = .own (List.map cGExpand_token l).length p ∧ Vc.Own H0 255 9 (List.map cGExpand_token l) (List.map cGExpand_token l).length p H') noE := by
 refine TCall.body Tryz.func153 rfl rfl ?_
 refine uC ?_
 refine uA 1 rfl trivial ?_
 refine WpOps.nil ?_
 refine WpC.seq ?_
 refine uC ?_
 refine uA 1 rfl trivial ?_
 refine uE rfl rfl (WpO.isNil (size := 9) (es := List.map cGExpand_token l) rfl rfl rfl rfl fun b hb => ?_)
 refine WpOps.nil ?_
 refine uF rfl (fun hb2 => ?_) (fun hb2 => ?_)
 ·subst hb2
  have e0 : List.map cGExpand_token l = [] := hb rfl
  refine uC ?_
  refine uA 1 rfl trivial ?_
  refine WpOps.nil ?_
  refine WpC.ret ?_
  exact uH rfl rfl ⟨none, by rw [e0]; rfl, by rw [e0]; exact Vc.Own.nil rfl⟩
 ·refine WpC.skip ?_
  have hH : Holds H0 [] H0 := rfl
  refine uC ?_
  refine uE rfl rfl (WpO.litT (size := 9) cGExpand_token ([] : List GExpand_token) rfl rfl (by kernel_rfl) rfl hH fun g H' hH => ?_)
  refine uA 1 rfl trivial ?_
  refine uE rfl rfl (WpO.pushS cGExpand_token ([] : List GExpand_token) l (i := 0) rfl ek228 hH rfl rfl rfl (.rows _) (fun y _ => one_cGExpand_token y) (by simpa using hc) (by decide) fun g2 c2 H' hH => ?_)
  refine uA 1 rfl trivial ?_
  refine WpOps.nil ?_
  refine WpC.ret ?_
  obtain ⟨_, rfl, hO⟩ := hH
  exact uH rfl rfl ⟨_, rfl, hO⟩
theorem w_expand_led {H0 : Heap} {l_1 : List GExpand_token} {blank_1 : Bool} {r : List GExpand_token} (h : expand_led l_1 blank_1 = some r) : TCall Tryz.prog 199 [(AV.rows 9 (List.map cGExpand_token l_1)), (bA blank_1)] H0 (fun v H' => v = (AV.rows 9 (List.map cGExpand_token r)) ∧ H' = H0) noE := by
  unfold expand_led at h; cases h
theorem w_expand_filled {H0 : Heap} (hG : Glob H0) {m_1 : GMacro} {args_1 : List (List GExpand_token)} {done_1 : List (List GExpand_token)} {r : List GExpand_token} (h : expand_filled m_1 args_1 done_1 = some r) : TCall Tryz.prog 188 [(AV.agg (cGMacro m_1)), (AV.rows 1 (List.map (cL 9 cGExpand_token) args_1)), (AV.rows 1 (List.map (cL 9 cGExpand_token) done_1))] H0 (fun v H' => v = (AV.rows 9 (List.map cGExpand_token r)) ∧ H' = H0) noE := by
 refine id (TCall.body Tryz.func188 rfl rfl ?_)
 have hH : Holds H0 [] H0 := rfl
 refine uC ?_
 refine uE rfl rfl (vF (v := (AV.agg (cGMacro m_1))) rfl rfl hH fun g_1 H' hH => ?_)
 refine uA 1 rfl trivial ?_
 refine WpOps.nil ?_
 refine uC ?_
 refine uA 1 rfl trivial ?_
 have hH := hH.nil 255 9
 refine WpOps.nil ?_
 refine WpC.seq ?_
 refine uC ?_
 refine uA 1 rfl trivial ?_
 refine WpOps.nil ?_
 refine vA (fun x : (List GExpand_token) × ((Option (Nat × Nat))) => [(7, (.own (List.map cGExpand_token x.1).length x.2))]) (fun x H' => expand_filled_j1 x.1 = some r ∧ Holds H0 [.own 255 9 x.2 (List.map cGExpand_token x.1)] H') ?_ ?_
 ·
  obtain ⟨o_1, ho_1, hk_1⟩ := Sh.bind_some h
  refine uX (expand_filled_b2 m_1 args_1 done_1) (fun (s : Int × List GExpand_token) (a : (Option (Nat × Nat))) => [(1, (AV.rows 1 (List.map (cL 9 cGExpand_token) args_1))), (2, (AV.rows 1 (List.map (cL 9 cGExpand_token) done_1))), (3, (.lit (.pointer (some ⟨g_1, 0, none⟩)))), (7, (.own (List.map cGExpand_token s.2).length a)), (8, (iA s.1))]) (fun (s : Int × List GExpand_token) (a : (Option (Nat × Nat))) H' => Holds H0 [.own 255 9 a (List.map cGExpand_token s.2), .cell g_1 69 (cGMacro m_1)] H') o_1 ((0 : Int), ([] : List GExpand_token)) none ho_1 ⟨rfl, rfl, rfl, rfl, rfl, trivial⟩ hH ?_
  rintro ⟨i_1, out_1⟩ p_1 st_1 env H' h hd_1 hH
  refine WpC.seq ?_
  refine uC ?_
  refine uA 2 rfl trivial ?_
  refine uB (v := (AV.rows 6 (List.map cGTok m_1.body))) rfl rfl (Exact.load rfl rfl (hH.cell (i := 1) rfl) rfl rfl) ?_
  refine uA 1 rfl trivial ?_
  refine uN 15 (len_map _ _) ?_
  refine uA 1 rfl trivial ?_
  refine WpOps.nil ?_
  refine uF rfl (fun hb => ?_) (fun hb => ?_)
  ·
   replace h := Sh.ite_pos hb h
   refine uI ?_
   refine ⟨_, uD _, ?_⟩
   refine WpC.seq ?_
   refine WpC.block ?_
   refine uC ?_
   refine uA 1 rfl trivial ?_
   refine uB (v := (AV.rows 6 (List.map cGTok m_1.body))) rfl rfl (Exact.load rfl rfl (hH.cell (i := 1) rfl) rfl rfl) ?_
   obtain ⟨y_1, hy_1, h⟩ := Sh.bind_some h
   refine uA 1 rfl trivial ?_
   refine uB (v := (.rop (cGTok y_1))) rfl rfl (uR cGTok hy_1 rfl rfl rfl rfl (by kernel_rfl) (by decide)) ?_
   refine uB (v := (AV.agg (cGTok y_1))) rfl rfl (uG rfl rfl rfl) ?_
   refine uE rfl rfl (vC (z := cGTok (GTok.mk (0 : Int) ([] : List UInt8) (0 : Int) (0 : Int) (0 : Int) false)) rfl rfl hH fun g_2 H' hH => ?_)
   refine uE rfl rfl (uQ (cs' := (cGTok y_1)) (v := (AV.agg (cGTok y_1))) rfl rfl hH (i := 0) rfl rfl rfl rfl rfl rfl rfl fun H' hH => ?_)
   refine WpOps.nil ?_
   refine uC ?_
   refine uB (v := (AV.agg (cGMacro m_1))) rfl rfl (Exact.load rfl rfl (hH.cell (i := 2) rfl) rfl rfl) ?_
   obtain ⟨r_1, hr_1, h⟩ := Sh.bind_some h
   refine uA 1 rfl trivial ?_
   refine uB (v := (iA r_1)) rfl rfl (Exact.call rfl rfl rfl (w_expand_place hr_1)) ?_
   refine uA 1 rfl trivial ?_
   refine WpOps.nil ?_
   refine WpC.block ?_
   refine uC ?_
   refine uB (v := (AV.agg (cGMacro m_1))) rfl rfl (Exact.load rfl rfl (hH.cell (i := 2) rfl) rfl rfl) ?_
   obtain ⟨r_2, hr_2, h⟩ := Sh.bind_some h
   refine uA 1 rfl trivial ?_
   refine uB (v := (bA r_2)) rfl rfl (Exact.call rfl rfl rfl (w_expand_quotes hr_2)) ?_
   refine uA 1 rfl trivial ?_
   refine WpOps.nil ?_
   refine uF rfl (fun hb => ?_) (fun hb => ?_)
   ·
    replace h := Sh.ite_pos hb h
    refine uC ?_
    refine uA 1 rfl trivial ?_
    refine uB (v := (AV.agg (cGMacro m_1))) rfl rfl (Exact.load rfl rfl (hH.cell (i := 2) rfl) rfl rfl) ?_
    obtain ⟨c_1, h⟩ := Sh.chk_some h
    obtain ⟨r_3, hr_3, h⟩ := Sh.bind_some h
    refine uA 2 rfl c_1 ?_
    refine uB (v := (iA r_3)) rfl rfl (Exact.call rfl rfl rfl (w_expand_place hr_3)) ?_
    obtain ⟨y_2, hy_2, h⟩ := Sh.bind_some h
    refine uB (v := (.rop ((cL 9 cGExpand_token) y_2))) rfl rfl (uR (cL 9 cGExpand_token) hy_2 rfl rfl rfl rfl (by kernel_rfl) (by decide)) ?_
    refine uB (v := (AV.rows 9 (List.map cGExpand_token y_2))) rfl rfl (uG rfl rfl rfl) ?_
    obtain ⟨r_4, hr_4, h⟩ := Sh.bind_some h
    refine uE rfl rfl (vI 0 (V := fun b : (Option (Nat × Nat)) => (.own (List.map cGTok r_4).length b)) (A := fun b : (Option (Nat × Nat)) => [.own 50 6 b (List.map cGTok r_4)]) rfl rfl rfl hH (fun H1 hl hh => w_expand_plain hr_4 hh) fun p_2 H' hH => ?_)
    have hH : Holds H0 [.own 50 6 p_2 (List.map cGTok r_4), .cell g_2 50 (cGTok y_1), .own 255 9 p_1 (List.map cGExpand_token out_1), .cell g_1 69 (cGMacro m_1)] _ := hH
    obtain ⟨r_5, hr_5, h⟩ := Sh.bind_some h
    refine uE rfl rfl (WpO.thawT (t := 43) (i := 0) (v := (AV.agg (cGTok r_5))) hH rfl rfl (fun H' hH => ⟨Exact.call rfl rfl rfl (w_glue_String (hG.up hH) hr_5), ?_⟩))
    refine uE rfl rfl (vC (z := cGTok (GTok.mk (0 : Int) ([] : List UInt8) (0 : Int) (0 : Int) (0 : Int) false)) rfl rfl hH fun g_3 H' hH => ?_)
    refine uE rfl rfl (uQ (cs' := (cGTok r_5)) (v := (AV.agg (cGTok r_5))) rfl rfl hH (i := 0) rfl rfl rfl rfl rfl rfl rfl fun H' hH => ?_)
    refine WpOps.nil ?_
    refine wJ (fun H => H g_2 = some (.cells 50 (cGTok y_1)) ∧ H g_1 = some (.cells 69 (cGMacro m_1)) ∧ RowAt H 255 9 p_1 (List.map cGExpand_token out_1) ∧ Glob H ∧ True) [.I, .I, .I, .I, .I, .I, .I, .I, .I, .E, .I, .E, .I, .E, .I, .E] [0, 1, 2, 3, 4, 5, 6, 7, 8, 9, 10, 11, 12, 13, 14, 15] (by kernel_rfl) (by kernel_rfl) ⟨hH.cell (i := 1) rfl, hH.cell (i := 3) rfl, hH.rowAt (i := 2) rfl, hG.up hH, trivial⟩ ?_
    refine uK 1 rfl trivial ?_
    refine vD (v := (iA y_1.file_)) rfl rfl rfl rfl (fun _ hi => Exact.load rfl rfl hi.1 rfl rfl) ?_
    refine uK 1 rfl trivial ?_
    refine vD (v := (iA y_1.from_)) rfl rfl rfl rfl (fun _ hi => Exact.load rfl rfl hi.1 rfl rfl) ?_
    refine uK 1 rfl trivial ?_
    refine vD (v := (iA y_1.to)) rfl rfl rfl rfl (fun _ hi => Exact.load rfl rfl hi.1 rfl rfl) ?_
    refine uK 1 rfl trivial ?_
    refine vD (v := (bA y_1.blank)) rfl rfl rfl rfl (fun _ hi => Exact.load rfl rfl hi.1 rfl rfl) ?_
    refine uK 1 rfl trivial ?_
    refine vE rfl rfl rfl rfl (uQ (cs' := (cGTok (GTok.mk r_5.kind r_5.text y_1.file_ r_5.from_ r_5.to r_5.blank))) (v := (iA y_1.file_)) rfl rfl hH (i := 0) rfl rfl rfl rfl rfl rfl rfl fun H' hH => ⟨⟨hH.cell (i := 1) rfl, hH.cell (i := 3) rfl, hH.rowAt (i := 2) rfl, hG.up hH, trivial⟩, ?_⟩)
    refine uK 1 rfl trivial ?_
    refine vE rfl rfl rfl rfl (uQ (cs' := (cGTok (GTok.mk r_5.kind r_5.text y_1.file_ y_1.from_ r_5.to r_5.blank))) (v := (iA y_1.from_)) rfl rfl hH (i := 0) rfl rfl rfl rfl rfl rfl rfl fun H' hH => ⟨⟨hH.cell (i := 1) rfl, hH.cell (i := 3) rfl, hH.rowAt (i := 2) rfl, hG.up hH, trivial⟩, ?_⟩)
    refine uK 1 rfl trivial ?_
    refine vE rfl rfl rfl rfl (uQ (cs' := (cGTok (GTok.mk r_5.kind r_5.text y_1.file_ y_1.from_ y_1.to r_5.blank))) (v := (iA y_1.to)) rfl rfl hH (i := 0) rfl rfl rfl rfl rfl rfl rfl fun H' hH => ⟨⟨hH.cell (i := 1) rfl, hH.cell (i := 3) rfl, hH.rowAt (i := 2) rfl, hG.up hH, trivial⟩, ?_⟩)
    refine uK 1 rfl trivial ?_
    refine vE rfl rfl rfl rfl (uQ (cs' := (cGTok (GTok.mk r_5.kind r_5.text y_1.file_ y_1.from_ y_1.to y_1.blank))) (v := (bA y_1.blank)) rfl rfl hH (i := 0) rfl rfl rfl rfl rfl rfl rfl fun H' hH => ⟨⟨hH.cell (i := 1) rfl, hH.cell (i := 3) rfl, hH.rowAt (i := 2) rfl, hG.up hH, trivial⟩, ?_⟩)
    refine WpPi.nil ?_
    refine uC ?_
    refine uA 1 rfl trivial ?_
    refine uB (v := (AV.agg (cGTok (GTok.mk r_5.kind r_5.text y_1.file_ y_1.from_ y_1.to y_1.blank)))) rfl rfl (Exact.load rfl rfl (hH.cell (i := 0) rfl) rfl rfl) ?_
    refine uB (v := (AV.agg (cGExpand_token (GExpand_token.mk (GTok.mk r_5.kind r_5.text y_1.file_ y_1.from_ y_1.to y_1.blank) ([] : List (List UInt8)) false false)))) rfl rfl (wG rfl (Sub.agg (.cons (.refl _) (.cons (.refl _) (.cons (.refl _) (.cons (.refl _) (.cons (.refl _) (.cons (.refl _) (.cons (Sub.nil _) (.cons (.refl _) (.cons (.refl _) .nil)))))))))) trivial) ?_
    refine uB (v := (AV.rows 9 (List.map cGExpand_token ([(GExpand_token.mk (GTok.mk r_5.kind r_5.text y_1.file_ y_1.from_ y_1.to y_1.blank) ([] : List (List UInt8)) false false)] : List GExpand_token)))) rfl rfl (uW rfl (by kernel_rfl)) ?_
    obtain ⟨c_2, h⟩ := Sh.chk_some h
    refine uE rfl rfl (vL cGExpand_token out_1 ([(GExpand_token.mk (GTok.mk r_5.kind r_5.text y_1.file_ y_1.from_ y_1.to y_1.blank) ([] : List (List UInt8)) false false)] : List GExpand_token) (i := 2) rfl ek228 hH rfl rfl rfl (.rows _) (fun y _ => one_cGExpand_token y) (by simp) c_2 (by decide) fun p_3 H' hH => ?_)
    refine uA 1 rfl trivial ?_
    refine WpOps.nil ?_
    refine uJ ?_
    obtain ⟨c_3, h⟩ := Sh.chk_some h
    refine uA 3 rfl c_3 ?_
    refine WpOps.nil ?_
    refine ⟨_, uD _, ?_⟩
    refine uJ ?_
    obtain ⟨c_4, h⟩ := Sh.chk_some h
    refine uA 3 rfl c_4 ?_
    refine WpOps.nil ?_
    obtain ⟨_, hle_1, hH⟩ := hH.lose_ (i := 0) rfl
    obtain ⟨_, hle_2, hH⟩ := hH.lose_ (i := 0) rfl
    obtain rfl := Sh.some_inj h
    exact ⟨_, (uY hle_2 hle_1), (((i_1 + (1 : Int)) + (1 : Int)), (out_1 ++ ([(GExpand_token.mk (GTok.mk r_5.kind r_5.text y_1.file_ y_1.from_ y_1.to y_1.blank) ([] : List (List UInt8)) false false)] : List GExpand_token))), p_3, rfl, ⟨rfl, rfl, rfl, rfl, rfl, trivial⟩, hH⟩
   ·
    replace h := Sh.ite_neg hb h
    refine uC ?_
    refine uA 1 rfl trivial ?_
    refine uB (v := (iA y_1.kind)) rfl rfl (Exact.load rfl rfl (hH.cell (i := 0) rfl) rfl rfl) ?_
    refine uA 1 rfl trivial ?_
    obtain ⟨b_1, g_4, h⟩ := Sh.bind_some h
    refine uM 5 72 (bA b_1) rfl ?_ ?_
    ·
     refine uA 1 rfl trivial ?_
     refine uL 68 rfl (fun hb => ?_) (fun hb => ?_)
     ·
      replace g_4 := Sh.ite_pos hb g_4
      refine uA 1 rfl trivial ?_
      refine uB (v := (sA y_1.text)) rfl rfl (Exact.load rfl rfl (hH.cell (i := 0) rfl) rfl rfl) ?_
      refine uA 2 rfl trivial ?_
      refine WpOps.nil ?_
      obtain rfl := Sh.some_inj g_4
      exact ⟨rfl, rfl⟩
     ·
      replace g_4 := Sh.ite_neg hb g_4
      refine uA 4 rfl trivial ?_
      refine WpOps.nil ?_
      obtain rfl := Sh.some_inj g_4
      exact ⟨rfl, rfl⟩
    intro env
    refine uA 1 rfl trivial ?_
    refine WpOps.nil ?_
    refine uF rfl (fun hb => ?_) (fun hb => ?_)
    ·
     replace h := Sh.ite_pos hb h
     refine uJ ?_
     refine uA 1 rfl trivial ?_
     refine uB (v := (AV.agg (cGTok y_1))) rfl rfl (Exact.load rfl rfl (hH.cell (i := 0) rfl) rfl rfl) ?_
     refine uB (v := (AV.agg (cGExpand_token (GExpand_token.mk y_1 ([] : List (List UInt8)) false true)))) rfl rfl (wG rfl (Sub.agg (.cons (.refl _) (.cons (.refl _) (.cons (.refl _) (.cons (.refl _) (.cons (.refl _) (.cons (.refl _) (.cons (Sub.nil _) (.cons (.refl _) (.cons (.refl _) .nil)))))))))) trivial) ?_
     refine uB (v := (AV.rows 9 (List.map cGExpand_token ([(GExpand_token.mk y_1 ([] : List (List UInt8)) false true)] : List GExpand_token)))) rfl rfl (uW rfl (by kernel_rfl)) ?_
     obtain ⟨c_5, h⟩ := Sh.chk_some h
     refine uE rfl rfl (vL cGExpand_token out_1 ([(GExpand_token.mk y_1 ([] : List (List UInt8)) false true)] : List GExpand_token) (i := 1) rfl ek228 hH rfl rfl rfl (.rows _) (fun y _ => one_cGExpand_token y) (by simp) c_5 (by decide) fun p_4 H' hH => ?_)
     refine uA 1 rfl trivial ?_
     refine WpOps.nil ?_
     refine ⟨_, uD _, ?_⟩
     refine uJ ?_
     obtain ⟨c_6, h⟩ := Sh.chk_some h
     refine uA 3 rfl c_6 ?_
     refine WpOps.nil ?_
     obtain ⟨_, hle_3, hH⟩ := hH.lose_ (i := 0) rfl
     obtain rfl := Sh.some_inj h
     exact ⟨_, hle_3, ((i_1 + (1 : Int)), (out_1 ++ ([(GExpand_token.mk y_1 ([] : List (List UInt8)) false true)] : List GExpand_token))), p_4, rfl, ⟨rfl, rfl, rfl, rfl, rfl, trivial⟩, hH⟩
    ·
     replace h := Sh.ite_neg hb h
     refine uC ?_
     refine uA 2 rfl trivial ?_
     obtain ⟨b_2, g_5, h⟩ := Sh.bind_some h
     refine uM 5 85 (bA b_2) rfl ?_ ?_
     ·
      refine uA 1 rfl trivial ?_
      refine uL 81 rfl (fun hb => ?_) (fun hb => ?_)
      ·
       replace g_5 := Sh.ite_pos hb g_5
       refine uB (v := (AV.agg (cGMacro m_1))) rfl rfl (Exact.load rfl rfl (hH.cell (i := 2) rfl) rfl rfl) ?_
       obtain ⟨r_6, hr_6, g_5⟩ := Sh.bind_some g_5
       refine uA 1 rfl trivial ?_
       refine uB (v := (bA r_6)) rfl rfl (Exact.call rfl rfl rfl (w_expand_pastes hr_6)) ?_
       refine uA 1 rfl trivial ?_
       refine WpOps.nil ?_
       obtain rfl := Sh.some_inj g_5
       exact ⟨rfl, rfl⟩
      ·
       replace g_5 := Sh.ite_neg hb g_5
       refine uA 4 rfl trivial ?_
       refine WpOps.nil ?_
       obtain rfl := Sh.some_inj g_5
       exact ⟨rfl, rfl⟩
     intro env
     obtain ⟨b_3, g_6, h⟩ := Sh.bind_some h
     refine uM 8 93 (bA b_3) rfl ?_ ?_
     ·
      refine uA 1 rfl trivial ?_
      refine uL 86 rfl (fun hb => ?_) (fun hb => ?_)
      ·
       replace g_6 := Sh.ite_pos hb g_6
       obtain ⟨y_3, hy_3, g_6⟩ := Sh.bind_some g_6
       refine uA 2 rfl trivial ?_
       refine uB (v := (.rop ((cL 9 cGExpand_token) y_3))) rfl rfl (uR (cL 9 cGExpand_token) hy_3 rfl rfl rfl rfl (by kernel_rfl) (by decide)) ?_
       refine uB (v := (AV.rows 9 (List.map cGExpand_token y_3))) rfl rfl (uG rfl rfl rfl) ?_
       refine uA 1 rfl trivial ?_
       refine uN 91 (len_map _ _) ?_
       refine uA 2 rfl trivial ?_
       refine WpOps.nil ?_
       obtain rfl := Sh.some_inj g_6
       exact ⟨rfl, rfl⟩
      ·
       replace g_6 := Sh.ite_neg hb g_6
       refine uA 7 rfl trivial ?_
       refine WpOps.nil ?_
       obtain rfl := Sh.some_inj g_6
       exact ⟨rfl, rfl⟩
     intro env
     refine uA 1 rfl trivial ?_
     refine WpOps.nil ?_
     refine uF rfl (fun hb => ?_) (fun hb => ?_)
     ·
      replace h := Sh.ite_pos hb h
      refine uJ ?_
      refine uA 2 rfl trivial ?_
      refine uB (v := (bA y_1.blank)) rfl rfl (Exact.load rfl rfl (hH.cell (i := 0) rfl) rfl rfl) ?_
      refine uA 1 rfl trivial ?_
      refine uB (v := (AV.agg (cGExpand_token (GExpand_token.mk (GTok.mk (0 : Int) ([] : List UInt8) (0 : Int) (0 : Int) (0 : Int) y_1.blank) ([] : List (List UInt8)) true false)))) rfl rfl (wG rfl (Sub.agg (.cons (.refl _) (.cons (.refl _) (.cons (.refl _) (.cons (.refl _) (.cons (.refl _) (.cons (.refl _) (.cons (Sub.nil _) (.cons (.refl _) (.cons (.refl _) .nil)))))))))) trivial) ?_
      refine uB (v := (AV.rows 9 (List.map cGExpand_token ([(GExpand_token.mk (GTok.mk (0 : Int) ([] : List UInt8) (0 : Int) (0 : Int) (0 : Int) y_1.blank) ([] : List (List UInt8)) true false)] : List GExpand_token)))) rfl rfl (uW rfl (by kernel_rfl)) ?_
      obtain ⟨c_7, h⟩ := Sh.chk_some h
      refine uE rfl rfl (vL cGExpand_token out_1 ([(GExpand_token.mk (GTok.mk (0 : Int) ([] : List UInt8) (0 : Int) (0 : Int) (0 : Int) y_1.blank) ([] : List (List UInt8)) true false)] : List GExpand_token) (i := 1) rfl ek228 hH rfl rfl rfl (.rows _) (fun y _ => one_cGExpand_token y) (by simp) c_7 (by decide) fun p_5 H' hH => ?_)
      refine uA 1 rfl trivial ?_
      refine WpOps.nil ?_
      refine ⟨_, uD _, ?_⟩
      refine uJ ?_
      obtain ⟨c_8, h⟩ := Sh.chk_some h
      refine uA 3 rfl c_8 ?_
      refine WpOps.nil ?_
      obtain ⟨_, hle_4, hH⟩ := hH.lose_ (i := 0) rfl
      obtain rfl := Sh.some_inj h
      exact ⟨_, hle_4, ((i_1 + (1 : Int)), (out_1 ++ ([(GExpand_token.mk (GTok.mk (0 : Int) ([] : List UInt8) (0 : Int) (0 : Int) (0 : Int) y_1.blank) ([] : List (List UInt8)) true false)] : List GExpand_token))), p_5, rfl, ⟨rfl, rfl, rfl, rfl, rfl, trivial⟩, hH⟩
     ·
      replace h := Sh.ite_neg hb h
      refine uC ?_
      refine uA 2 rfl trivial ?_
      obtain ⟨b_4, g_7, h⟩ := Sh.bind_some h
      refine uM 5 108 (bA b_4) rfl ?_ ?_
      ·
       refine uA 1 rfl trivial ?_
       refine uL 104 rfl (fun hb => ?_) (fun hb => ?_)
       ·
        replace g_7 := Sh.ite_pos hb g_7
        refine uB (v := (AV.agg (cGMacro m_1))) rfl rfl (Exact.load rfl rfl (hH.cell (i := 2) rfl) rfl rfl) ?_
        obtain ⟨r_7, hr_7, g_7⟩ := Sh.bind_some g_7
        refine uA 1 rfl trivial ?_
        refine uB (v := (bA r_7)) rfl rfl (Exact.call rfl rfl rfl (w_expand_pastes hr_7)) ?_
        refine uA 1 rfl trivial ?_
        refine WpOps.nil ?_
        obtain rfl := Sh.some_inj g_7
        exact ⟨rfl, rfl⟩
       ·
        replace g_7 := Sh.ite_neg hb g_7
        refine uA 4 rfl trivial ?_
        refine WpOps.nil ?_
        obtain rfl := Sh.some_inj g_7
        exact ⟨rfl, rfl⟩
      intro env
      refine uA 1 rfl trivial ?_
      refine WpOps.nil ?_
      refine uF rfl (fun hb => ?_) (fun hb => ?_)
      ·
       replace h := Sh.ite_pos hb h
       refine wB [.I, .I, .I, .I, .I, .I, .S, .I, .E] [0, 1, 2, 3, 4, 5, 6, 7, 8, 9] (by kernel_rfl) (by kernel_rfl) ?_
       obtain ⟨y_4, hy_4, h⟩ := Sh.bind_some h
       refine uK 3 rfl trivial ?_
       refine uV (v := (.rop ((cL 9 cGExpand_token) y_4))) rfl rfl rfl rfl (fun _ => uR (cL 9 cGExpand_token) hy_4 rfl rfl rfl rfl (by kernel_rfl) (by decide)) ?_
       refine uV (v := (AV.rows 9 (List.map cGExpand_token y_4))) rfl rfl rfl rfl (fun _ => uG rfl rfl rfl) ?_
       refine uK 1 rfl trivial ?_
       refine uT (v := (bA y_1.blank)) rfl rfl rfl rfl (Exact.load rfl rfl (hH.cell (i := 0) rfl) rfl rfl) ?_
       obtain ⟨r_8, hr_8, h⟩ := Sh.bind_some h
       refine uV (v := (AV.rows 9 (List.map cGExpand_token r_8))) rfl rfl rfl rfl (fun _ => Exact.call rfl rfl rfl (w_expand_led hr_8)) ?_
       obtain ⟨c_9, h⟩ := Sh.chk_some h
       refine vM rfl rfl rfl rfl (WpO.pushA cGExpand_token out_1 r_8 (i := 1) rfl ek228 hH rfl rfl rfl (.rows _) (fun y _ => one_cGExpand_token y) c_9 (by decide) fun p_6 H' hH => ?_)
       refine uK 1 rfl trivial ?_
       refine WpPi.nil ?_
       refine ⟨_, uD _, ?_⟩
       refine uJ ?_
       obtain ⟨c_10, h⟩ := Sh.chk_some h
       refine uA 3 rfl c_10 ?_
       refine WpOps.nil ?_
       obtain ⟨_, hle_5, hH⟩ := hH.lose_ (i := 0) rfl
       obtain rfl := Sh.some_inj h
       exact ⟨_, hle_5, ((i_1 + (1 : Int)), (out_1 ++ r_8)), p_6, rfl, ⟨rfl, rfl, rfl, rfl, rfl, trivial⟩, hH⟩
      ·
       replace h := Sh.ite_neg hb h
       refine uC ?_
       refine uA 3 rfl trivial ?_
       refine WpOps.nil ?_
       refine uF rfl (fun hb => ?_) (fun hb => ?_)
       ·
        replace h := Sh.ite_pos hb h
        refine wB [.I, .I, .I, .I, .I, .I, .S, .I, .E] [0, 1, 2, 3, 4, 5, 6, 7, 8, 9] (by kernel_rfl) (by kernel_rfl) ?_
        obtain ⟨y_5, hy_5, h⟩ := Sh.bind_some h
        refine uK 3 rfl trivial ?_
        refine uV (v := (.rop ((cL 9 cGExpand_token) y_5))) rfl rfl rfl rfl (fun _ => uR (cL 9 cGExpand_token) hy_5 rfl rfl rfl rfl (by kernel_rfl) (by decide)) ?_
        refine uV (v := (AV.rows 9 (List.map cGExpand_token y_5))) rfl rfl rfl rfl (fun _ => uG rfl rfl rfl) ?_
        refine uK 1 rfl trivial ?_
        refine uT (v := (bA y_1.blank)) rfl rfl rfl rfl (Exact.load rfl rfl (hH.cell (i := 0) rfl) rfl rfl) ?_
        obtain ⟨r_9, hr_9, h⟩ := Sh.bind_some h
        refine uV (v := (AV.rows 9 (List.map cGExpand_token r_9))) rfl rfl rfl rfl (fun _ => Exact.call rfl rfl rfl (w_expand_led hr_9)) ?_
        obtain ⟨c_11, h⟩ := Sh.chk_some h
        refine vM rfl rfl rfl rfl (WpO.pushA cGExpand_token out_1 r_9 (i := 1) rfl ek228 hH rfl rfl rfl (.rows _) (fun y _ => one_cGExpand_token y) c_11 (by decide) fun p_7 H' hH => ?_)
        refine uK 1 rfl trivial ?_
        refine WpPi.nil ?_
        refine ⟨_, uD _, ?_⟩
        refine uJ ?_
        obtain ⟨c_12, h⟩ := Sh.chk_some h
        refine uA 3 rfl c_12 ?_
        refine WpOps.nil ?_
        obtain ⟨_, hle_6, hH⟩ := hH.lose_ (i := 0) rfl
        obtain rfl := Sh.some_inj h
        exact ⟨_, hle_6, ((i_1 + (1 : Int)), (out_1 ++ r_9)), p_7, rfl, ⟨rfl, rfl, rfl, rfl, rfl, trivial⟩, hH⟩
       ·
        replace h := Sh.ite_neg hb h
        refine uJ ?_
        refine uA 1 rfl trivial ?_
        refine uB (v := (AV.agg (cGTok y_1))) rfl rfl (Exact.load rfl rfl (hH.cell (i := 0) rfl) rfl rfl) ?_
        refine uB (v := (AV.agg (cGExpand_token (GExpand_token.mk y_1 ([] : List (List UInt8)) false false)))) rfl rfl (wG rfl (Sub.agg (.cons (.refl _) (.cons (.refl _) (.cons (.refl _) (.cons (.refl _) (.cons (.refl _) (.cons (.refl _) (.cons (Sub.nil _) (.cons (.refl _) (.cons (.refl _) .nil)))))))))) trivial) ?_
        refine uB (v := (AV.rows 9 (List.map cGExpand_token ([(GExpand_token.mk y_1 ([] : List (List UInt8)) false false)] : List GExpand_token)))) rfl rfl (uW rfl (by kernel_rfl)) ?_
        obtain ⟨c_13, h⟩ := Sh.chk_some h
        refine uE rfl rfl (vL cGExpand_token out_1 ([(GExpand_token.mk y_1 ([] : List (List UInt8)) false false)] : List GExpand_token) (i := 1) rfl ek228 hH rfl rfl rfl (.rows _) (fun y _ => one_cGExpand_token y) (by simp) c_13 (by decide) fun p_8 H' hH => ?_)
        refine uA 1 rfl trivial ?_
        refine WpOps.nil ?_
        refine ⟨_, uD _, ?_⟩
        refine uJ ?_
        obtain ⟨c_14, h⟩ := Sh.chk_some h
        refine uA 3 rfl c_14 ?_
        refine WpOps.nil ?_
        obtain ⟨_, hle_7, hH⟩ := hH.lose_ (i := 0) rfl
        obtain rfl := Sh.some_inj h
        exact ⟨_, hle_7, ((i_1 + (1 : Int)), (out_1 ++ ([(GExpand_token.mk y_1 ([] : List (List UInt8)) false false)] : List GExpand_token))), p_8, rfl, ⟨rfl, rfl, rfl, rfl, rfl, trivial⟩, hH⟩
  ·
   replace h := Sh.ite_neg hb h
   refine uP (i := 1) hH rfl (fun H' hH => ?_)
   obtain rfl := Sh.some_inj h
   have e := hd_1 _ rfl
   subst e
   refine WpC.exit ?_
   exact ⟨(out_1, p_1), ⟨rfl, trivial⟩, hk_1, hH⟩
 ·
  rintro ⟨out_2, p_9⟩ env H' ⟨h, hH⟩
  try dsimp only at h
  refine ⟨_, uD _, ?_⟩
  refine uC ?_
  refine uA 2 rfl trivial ?_
  refine WpOps.nil ?_
  refine vJ (t := 6) (i := 0) hH rfl rfl (fun H' hH => ?_)
  obtain rfl := Sh.some_inj h
  refine WpC.ret ?_
  exact uH rfl rfl ⟨rfl, hH⟩
theorem w_expand_work_comes_c1 {H0 : Heap} {t_1 : GExpand_token} {r : Bool} (h : expand_work_comes_c1 t_1 = some r) : TCall Tryz.prog 190 [(AV.agg (cGExpand_token t_1))] H0 (fun v H' => v = (bA r) ∧ H' = H0) noE := by
 refine id (TCall.body Tryz.func190 rfl rfl ?_)
 have hH : Holds H0 [] H0 := rfl
 refine uC ?_
 refine uE rfl rfl (vF (v := (AV.agg (cGExpand_token t_1))) rfl rfl hH fun g_1 H' hH => ?_)
 refine uA 1 rfl trivial ?_
 refine WpOps.nil ?_
 refine uC ?_
 refine uA 1 rfl trivial ?_
 refine uB (v := (bA t_1.mark)) rfl rfl (Exact.load rfl rfl (hH.cell (i := 0) rfl) rfl rfl) ?_
 refine uA 1 rfl trivial ?_
 refine WpOps.nil ?_
 refine uP (i := 0) hH rfl (fun H' hH => ?_)
 obtain rfl := Sh.some_inj h
 refine WpC.ret ?_
 exact uH rfl rfl ⟨rfl, hH⟩
theorem w_slices_Concat_Lstring_string {H0 H : Heap}  {slices_1 : List (List (List UInt8))} {r : List (List UInt8)} (h : slices_Concat_Lstring_string slices_1 = some r) (hH : Holds H0 [] H) : TCall Tryz.prog 201 [(AV.rows 1 (List.map (cL 1 cS) slices_1))] H (fun v H' => ∃ b : (Option (Nat × Nat)), v = (.own (List.map cS r).length b) ∧ Holds H0 [.own 9 1 b (List.map cS r)] H') noE := by
 refine id (TCall.body Tryz.func201 rfl rfl ?_)
 refine uC ?_
 refine uA 1 rfl trivial ?_
 refine WpOps.nil ?_
 refine uC ?_
 refine uA 1 rfl trivial ?_
 refine WpOps.nil ?_
 refine WpC.seq ?_
 refine uC ?_
 refine uA 2 rfl trivial ?_
 refine uN 10 (len_map _ _) ?_
 refine uA 1 rfl trivial ?_
 refine WpOps.nil ?_
 refine vA (fun x : (Int) × (Unit) => [(0, (AV.rows 1 (List.map (cL 1 cS) slices_1))), (3, (iA x.1))]) (fun x H' => (slices_Concat_Lstring_string_j1 slices_1) x.1 = some r ∧ Holds H0 [] H') ?_ ?_
 ·
  obtain ⟨o_1, ho_1, hk_1⟩ := Sh.bind_some h
  refine uX (slices_Concat_Lstring_string_b2 slices_1) (fun (s : Int × Int) (a : Unit) => [(0, (AV.rows 1 (List.map (cL 1 cS) slices_1))), (3, (iA s.1)), (9, (AV.rows 1 (List.map (cL 1 cS) slices_1))), (10, (iA (slices_1.length : Int))), (11, (iA s.2))]) (fun (s : Int × Int) (a : Unit) H' => Holds H0 [] H') o_1 ((0 : Int), (0 : Int)) () ho_1 ⟨rfl, rfl, rfl, rfl, rfl, trivial⟩ hH ?_
  rintro ⟨size_1, t11_1⟩ _ st_1 env H' h hd_1 hH
  refine uC ?_
  refine uA 1 rfl trivial ?_
  refine WpOps.nil ?_
  refine WpC.seq ?_
  refine uF rfl (fun hb => ?_) (fun hb => ?_)
  ·
   replace h := Sh.ite_pos hb h
   refine uI ?_
   refine ⟨_, uD _, ?_⟩
   refine WpC.seq ?_
   refine WpC.block ?_
   refine uC ?_
   obtain ⟨y_1, hy_1, h⟩ := Sh.bind_some h
   refine uB (v := (.rop ((cL 1 cS) y_1))) rfl rfl (uR (cL 1 cS) hy_1 rfl rfl rfl rfl (by kernel_rfl) (by decide)) ?_
   refine uB (v := (AV.rows 1 (List.map cS y_1))) rfl rfl (uG rfl rfl rfl) ?_
   refine uA 1 rfl trivial ?_
   refine WpOps.nil ?_
   refine uC ?_
   refine uA 3 rfl trivial ?_
   refine uN 17 (len_map _ _) ?_
   obtain ⟨c_1, h⟩ := Sh.chk_some h
   refine uA 2 rfl c_1 ?_
   refine WpOps.nil ?_
   refine uC ?_
   refine uA 2 rfl trivial ?_
   refine WpOps.nil ?_
   refine uF rfl (fun hb => ?_) (fun hb => ?_)
   ·
    replace h := Sh.ite_pos hb h
    cases h
   ·
    replace h := Sh.ite_neg hb h
    refine uI ?_
    refine ⟨_, uD _, ?_⟩
    refine uJ ?_
    obtain ⟨c_2, h⟩ := Sh.chk_some h
    refine uA 2 rfl c_2 ?_
    refine WpOps.nil ?_
    obtain rfl := Sh.some_inj h
    exact ⟨_, (uD _), ((size_1 + (y_1.length : Int)), (t11_1 + (1 : Int))), (), rfl, ⟨rfl, rfl, rfl, rfl, rfl, trivial⟩, hH⟩
  ·
   replace h := Sh.ite_neg hb h
   obtain rfl := Sh.some_inj h
   have e := hd_1 _ rfl
   subst e
   refine WpC.exit ?_
   exact ⟨(size_1, ()), ⟨rfl, rfl, trivial⟩, hk_1, hH⟩
 ·
  rintro ⟨size_2, _⟩ env H' ⟨h, hH⟩
  try dsimp only at h
  refine ⟨_, uD _, ?_⟩
  refine uC ?_
  obtain ⟨c_3, h⟩ := Sh.chk_some h
  refine uA 1 rfl trivial ?_
  refine uE rfl rfl (WpO.callQ (F := fun p => .own ([] : List (List AV)).length p) (t := 9) (size := 1) (es := []) rfl rfl rfl hH (w_GrowS c_3) fun p_1 H' hH => ?_)
  have hH : Holds H0 [.own 9 1 p_1 (List.map cS ([] : List (List UInt8)))] _ := hH
  refine uA 1 rfl trivial ?_
  refine WpOps.nil ?_
  refine WpC.seq ?_
  refine uC ?_
  refine uA 2 rfl trivial ?_
  refine uN 26 (len_map _ _) ?_
  refine uA 1 rfl trivial ?_
  refine WpOps.nil ?_
  refine vA (fun x : (List (List UInt8)) × ((Option (Nat × Nat))) => [(6, (.own (List.map cS x.1).length x.2))]) (fun x H' => slices_Concat_Lstring_string_j3 x.1 = some r ∧ Holds H0 [.own 9 1 x.2 (List.map cS x.1)] H') ?_ ?_
  ·
   obtain ⟨o_2, ho_2, hk_2⟩ := Sh.bind_some h
   refine uX (slices_Concat_Lstring_string_b4 slices_1) (fun (s : Int × List (List UInt8)) (a : (Option (Nat × Nat))) => [(6, (.own (List.map cS s.2).length a)), (25, (AV.rows 1 (List.map (cL 1 cS) slices_1))), (26, (iA (slices_1.length : Int))), (27, (iA s.1))]) (fun (s : Int × List (List UInt8)) (a : (Option (Nat × Nat))) H' => Holds H0 [.own 9 1 a (List.map cS s.2)] H') o_2 ((0 : Int), ([] : List (List UInt8))) p_1 ho_2 ⟨rfl, rfl, rfl, rfl, trivial⟩ hH ?_
   rintro ⟨t27_1, newslice_1⟩ p_2 st_2 env H' h hd_2 hH
   refine uC ?_
   refine uA 1 rfl trivial ?_
   refine WpOps.nil ?_
   refine WpC.seq ?_
   refine uF rfl (fun hb => ?_) (fun hb => ?_)
   ·
    replace h := Sh.ite_pos hb h
    refine uI ?_
    refine ⟨_, uD _, ?_⟩
    refine WpC.seq ?_
    refine WpC.block ?_
    refine uC ?_
    obtain ⟨y_2, hy_2, h⟩ := Sh.bind_some h
    refine uB (v := (.rop ((cL 1 cS) y_2))) rfl rfl (uR (cL 1 cS) hy_2 rfl rfl rfl rfl (by kernel_rfl) (by decide)) ?_
    refine uB (v := (AV.rows 1 (List.map cS y_2))) rfl rfl (uG rfl rfl rfl) ?_
    refine uA 1 rfl trivial ?_
    refine WpOps.nil ?_
    refine uJ ?_
    obtain ⟨c_4, h⟩ := Sh.chk_some h
    refine uA 2 rfl trivial ?_
    refine uE rfl rfl (WpO.pushA cS newslice_1 y_2 (i := 0) rfl ek23 hH rfl rfl rfl (.rows _) (fun y _ => one_cS y) c_4 (by decide) fun p_3 H' hH => ?_)
    refine uA 1 rfl trivial ?_
    refine WpOps.nil ?_
    refine ⟨_, uD _, ?_⟩
    refine uJ ?_
    obtain ⟨c_5, h⟩ := Sh.chk_some h
    refine uA 2 rfl c_5 ?_
    refine WpOps.nil ?_
    obtain rfl := Sh.some_inj h
    exact ⟨_, (uD _), ((t27_1 + (1 : Int)), (newslice_1 ++ y_2)), p_3, rfl, ⟨rfl, rfl, rfl, rfl, trivial⟩, hH⟩
   ·
    replace h := Sh.ite_neg hb h
    obtain rfl := Sh.some_inj h
    have e := hd_2 _ rfl
    subst e
    refine WpC.exit ?_
    exact ⟨(newslice_1, p_2), ⟨rfl, trivial⟩, hk_2, hH⟩
  ·
   rintro ⟨newslice_2, p_4⟩ env H' ⟨h, hH⟩
   try dsimp only at h
   refine ⟨_, uD _, ?_⟩
   refine uC ?_
   refine uA 2 rfl trivial ?_
   refine WpOps.nil ?_
   have hH : Holds H0 [.own 9 1 p_4 (List.map cS newslice_2)] _ := hH
   obtain rfl := Sh.some_inj h
   refine WpC.ret ?_
   exact uH rfl rfl ⟨p_4, rfl, hH⟩
theorem w_expand_with {H0 : Heap} {a_1 : List (List UInt8)} {more_1 : List (List UInt8)} {r : List (List UInt8)} (h : expand_with a_1 more_1 = some r) : TCall Tryz.prog 191 [(AV.rows 1 (List.map cS a_1)), (AV.rows 1 (List.map cS more_1))] H0 (fun v H' => v = (AV.rows 1 (List.map cS r)) ∧ H' = H0) noE := by
 refine id (TCall.body Tryz.func191 rfl rfl ?_)
 have hH : Holds H0 [] H0 := rfl
 refine uC ?_
 refine uA 1 rfl trivial ?_
 refine WpOps.nil ?_
 refine uC ?_
 refine uA 2 rfl trivial ?_
 refine uB (v := (AV.rows 1 (List.map (cL 1 cS) ([a_1, more_1] : List (List (List UInt8)))))) rfl rfl (uW rfl (by kernel_rfl)) ?_
 obtain ⟨r_1, hr_1, h⟩ := Sh.bind_some h
 refine uE rfl rfl (vI 0 (V := fun b : (Option (Nat × Nat)) => (.own (List.map cS r_1).length b)) (A := fun b : (Option (Nat × Nat)) => [.own 9 1 b (List.map cS r_1)]) rfl rfl rfl hH (fun H1 hl hh => w_slices_Concat_Lstring_string hr_1 hh) fun p_1 H' hH => ?_)
 have hH : Holds H0 [.own 9 1 p_1 (List.map cS r_1)] _ := hH
 refine uA 1 rfl trivial ?_
 refine WpOps.nil ?_
 refine uC ?_
 obtain ⟨c_1, h⟩ := Sh.chk_some h
 refine uA 1 rfl trivial ?_
 refine uE rfl rfl (vH (v := (.tup [])) rfl rfl rfl hH (i := 0) rfl (fun H1 hl hh => w_sortS c_1 hh) fun H' hH => ?_)
 refine uN 9 (own_sortS _ _) ?_
 refine uN 5 (own_sortS _ _) ?_
 refine uN 10 (own_sortS _ _) ?_
 refine WpOps.nil ?_
 refine uC ?_
 obtain ⟨c_2, h⟩ := Sh.chk_some h
 refine uA 1 rfl trivial ?_
 refine uE rfl rfl (vH (v := .own (List.map cS (sortS r_1)).length p_1) rfl rfl rfl hH (i := 0) rfl (fun H1 hl hh => w_compS c_2 hh) fun H' hH => ?_)
 refine uA 1 rfl trivial ?_
 refine WpOps.nil ?_
 refine vJ (t := 4) (i := 0) hH rfl rfl (fun H' hH => ?_)
 obtain rfl := Sh.some_inj h
 refine WpC.ret ?_
 exact uH rfl rfl ⟨rfl, hH⟩
theorem w_slices_Clone_Lstring_string {H0 : Heap} {l : List (List UInt8)} (hc : l.length * 16 ≤ 140737488355328) : TCall Tryz.prog 192 [.rows 1 (List.map cS l)] H0 (fun v H' => ∃ p, v = .own (List.map cS l).length p ∧ Vc.Own H0 9 1 (List.map cS l) (List.map cS l).length p H') noE := by
 refine TCall.body Tryz.func192 rfl rfl ?_
 refine uC ?_
 refine uA 1 rfl trivial ?_
 refine WpOps.nil ?_
 refine WpC.seq ?_
 refine uC ?_
 refine uA 1 rfl trivial ?_
 refine uE rfl rfl (WpO.isNil (size := 1) (es := List.map cS l) rfl rfl rfl rfl fun b hb => ?_)
 refine WpOps.nil ?_
 refine uF rfl (fun hb2 => ?_) (fun hb2 => ?_)
 ·subst hb2
  have e0 : List.map cS l = [] := hb rfl
  refine uC ?_
  refine uA 1 rfl trivial ?_
  refine WpOps.nil ?_
  refine WpC.ret ?_
  exact uH rfl rfl ⟨none, by rw [e0]; rfl, by rw [e0]; exact Vc.Own.nil rfl⟩
 ·refine WpC.skip ?_
  have hH : Holds H0 [] H0 := rfl
  refine uC ?_
  refine uE rfl rfl (WpO.litT (size := 1) cS ([] : List (List UInt8)) rfl rfl (by kernel_rfl) rfl hH fun g H' hH => ?_)
  refine uA 1 rfl trivial ?_
  refine uE rfl rfl (WpO.pushS cS ([] : List (List UInt8)) l (i := 0) rfl ek23 hH rfl rfl rfl (.rows _) (fun y _ => one_cS y) (by simpa using hc) (by decide) fun g2 c2 H' hH => ?_)
  refine uA 1 rfl trivial ?_
  refine WpOps.nil ?_
  refine WpC.ret ?_
  obtain ⟨_, rfl, hO⟩ := hH
  exact uH rfl rfl ⟨_, rfl, hO⟩
theorem w_expand_work_comes {H0 H : Heap} (hG : Glob H0) {g_1 : Nat} {gm_1 : Nat} {w_1 : GExpand_work} {m_1 : GMacro} {args_1 : List (List GExpand_token)} {hide_1 : List (List UInt8)} {r : (List GExpand_token × Int) × GExpand_work} (h : expand_work_comes w_1 m_1 args_1 hide_1 = some r) (hH : Holds H0 [.cell g_1 224 [.lit (.map (some gm_1)), (iA w_1.steps)], .many (mapP gm_1 w_1.ms)] H) : TCall Tryz.prog 176 [(.lit (.pointer (some ⟨g_1, 0, none⟩))), (AV.agg (cGMacro m_1)), (AV.rows 1 (List.map (cL 9 cGExpand_token) args_1)), (AV.rows 1 (List.map cS hide_1))] H (fun v H' => ∃ b : (Option (Nat × Nat)), v = (.tup [.own (List.map cGExpand_token r.1.1).length b, (iA r.1.2)]) ∧ Holds H0 [.own 255 9 b (List.map cGExpand_token r.1.1), .cell g_1 224 [.lit (.map (some gm_1)), (iA r.2.steps)], .many (mapP gm_1 r.2.ms)] H') noE := by
  refine id (TCall.body Tryz.func176 rfl rfl ?_)
  refine uC ?_
  refine uE rfl rfl (vF (v := (AV.agg (cGMacro m_1))) rfl rfl hH fun g_2 H' hH => ?_)
  refine uA 2 rfl trivial ?_
  refine WpOps.nil ?_
  refine uC ?_
  refine uA 1 rfl trivial ?_
  refine uB (v := (AV.agg (cGMacro m_1))) rfl rfl (Exact.load rfl rfl (hH.cell (i := 0) rfl) rfl rfl) ?_
  obtain ⟨r_1, hr_1, h⟩ := Sh.bind_some h
  refine uA 1 rfl trivial ?_
  have hH := hH.front (i := 2) rfl
  have hH := hH.front (i := 2) rfl
  refine uE rfl rfl (vI 2 (V := fun b : Unit => (.tup [(AV.rows 1 (List.map (cL 9 cGExpand_token) r_1.1.1)), (iA r_1.1.2)])) (A := fun b : Unit => [.cell g_1 224 [.lit (.map (some gm_1)), (iA r_1.2.steps)], .many (mapP gm_1 r_1.2.ms)]) rfl rfl rfl hH (fun H1 hl hh => w_expand_work_expanded (hG.le hl) hr_1 hh) fun _ H' hH => ?_)
  have hH : Holds H0 [.cell g_1 224 [.lit (.map (some gm_1)), (iA r_1.2.steps)], .many (mapP gm_1 r_1.2.ms), .cell g_2 69 (cGMacro m_1)] _ := hH
  have hH := hH.back 2
  have hH := hH.back 2
  have hH : Holds H0 [.cell g_2 69 (cGMacro m_1), .cell g_1 224 [.lit (.map (some gm_1)), (iA r_1.2.steps)], .many (mapP gm_1 r_1.2.ms)] _ := hH
  refine uA 5 rfl trivial ?_
  refine WpOps.nil ?_
  refine WpC.seq ?_
  refine uC ?_
  refine uA 2 rfl trivial ?_
  refine WpOps.nil ?_
  refine uF rfl (fun hb => ?_) (fun hb => ?_)
  ·
    replace h := Sh.ite_pos hb h
    refine uC ?_
    refine uA 3 rfl trivial ?_
    refine WpOps.nil ?_
    have hH := hH.nil 255 9
    refine uP (i := 1) hH rfl (fun H' hH => ?_)
    have hH : Holds H0 [.own 255 9 none (List.map cGExpand_token ([] : List GExpand_token)), .cell g_1 224 [.lit (.map (some gm_1)), (iA r_1.2.steps)], .many (mapP gm_1 r_1.2.ms)] _ := hH
    obtain rfl := Sh.some_inj h
    refine WpC.ret ?_
    exact uU rfl rfl rfl ⟨none, rfl, hH⟩
  ·
    replace h := Sh.ite_neg hb h
    refine uI ?_
    refine ⟨_, uD _, ?_⟩
    refine uC ?_
    refine uB (v := (AV.agg (cGMacro m_1))) rfl rfl (Exact.load rfl rfl (hH.cell (i := 0) rfl) rfl rfl) ?_
    obtain ⟨r_2, hr_2, h⟩ := Sh.bind_some h
    refine uA 2 rfl trivial ?_
    refine uB (v := (AV.rows 9 (List.map cGExpand_token r_2))) rfl rfl (Exact.call rfl rfl rfl (w_expand_filled (hG.up hH) hr_2)) ?_
    obtain ⟨r_3, hr_3, h⟩ := Sh.bind_some h
    refine uE rfl rfl (vI 0 (V := fun b : (Option (Nat × Nat)) => (.tup [.own (List.map cGExpand_token r_3.1).length b, (iA r_3.2)])) (A := fun b : (Option (Nat × Nat)) => [.own 255 9 b (List.map cGExpand_token r_3.1)]) rfl rfl rfl hH (fun H1 hl hh => w_expand_pasted (hG.le hl) hr_3 hh) fun p_1 H' hH => ?_)
    have hH : Holds H0 [.own 255 9 p_1 (List.map cGExpand_token r_3.1), .cell g_2 69 (cGMacro m_1), .cell g_1 224 [.lit (.map (some gm_1)), (iA r_1.2.steps)], .many (mapP gm_1 r_1.2.ms)] _ := hH
    refine uA 5 rfl trivial ?_
    refine WpOps.nil ?_
    refine WpC.seq ?_
    refine uC ?_
    refine uA 2 rfl trivial ?_
    refine WpOps.nil ?_
    refine uF rfl (fun hb => ?_) (fun hb => ?_)
    ·
      replace h := Sh.ite_pos hb h
      refine uC ?_
      refine uA 3 rfl trivial ?_
      refine WpOps.nil ?_
      have hH := hH.nil 255 9
      refine uP (i := 1) hH rfl (fun H' hH => ?_)
      refine uP (i := 1) hH rfl (fun H' hH => ?_)
      have hH : Holds H0 [.own 255 9 none (List.map cGExpand_token ([] : List GExpand_token)), .cell g_1 224 [.lit (.map (some gm_1)), (iA r_1.2.steps)], .many (mapP gm_1 r_1.2.ms)] _ := hH
      obtain rfl := Sh.some_inj h
      refine WpC.ret ?_
      exact uU rfl rfl rfl ⟨none, rfl, hH⟩
    ·
      replace h := Sh.ite_neg hb h
      refine uI ?_
      refine ⟨_, uD _, ?_⟩
      refine uC ?_
      obtain ⟨c_1, h⟩ := Sh.chk_some h
      obtain ⟨d_1, hd_1, h⟩ := Sh.bind_some h
      refine uA 1 rfl trivial ?_
      refine uE rfl rfl (vH (v := (.own (List.map cGExpand_token d_1).length p_1)) rfl rfl rfl hH (i := 0) rfl (fun H1 hl hh => w_DeleteFuncEK (by kernel_rfl) (fun H y b hb => w_expand_work_comes_c1 hb) hd_1 (Nat.le_trans (Nat.le_of_lt c_1) (by decide)) hh) fun H' hH => ?_)
      refine uA 1 rfl trivial ?_
      refine WpOps.nil ?_
      refine WpC.seq ?_
      refine uC ?_
      refine uA 2 rfl trivial ?_
      refine uN 38 (len_map _ _) ?_
      refine uA 1 rfl trivial ?_
      refine WpOps.nil ?_
      refine vA (fun x : (List GExpand_token) × ((Option (Nat × Nat))) => [(12, (.own (List.map cGExpand_token x.1).length x.2))]) (fun x H' => (expand_work_comes_j1 r_1) x.1 = some r ∧ Holds H0 [.own 255 9 x.2 (List.map cGExpand_token x.1), .cell g_1 224 [.lit (.map (some gm_1)), (iA r_1.2.steps)], .many (mapP gm_1 r_1.2.ms)] H') ?_ ?_
      ·
        obtain ⟨o_1, ho_1, hk_1⟩ := Sh.bind_some h
        refine uX (expand_work_comes_b2 m_1 hide_1 d_1) (fun (s : Int × List GExpand_token) (a : (Option (Nat × Nat))) => [(3, (AV.rows 1 (List.map cS hide_1))), (5, (.lit (.pointer (some ⟨g_2, 0, none⟩)))), (12, (.own (List.map cGExpand_token s.2).length a)), (38, (iA (d_1.length : Int))), (39, (iA s.1))]) (fun (s : Int × List GExpand_token) (a : (Option (Nat × Nat))) H' => Holds H0 [.own 255 9 a (List.map cGExpand_token s.2), .cell g_2 69 (cGMacro m_1), .cell g_1 224 [.lit (.map (some gm_1)), (iA r_1.2.steps)], .many (mapP gm_1 r_1.2.ms)] H') o_1 ((0 : Int), d_1) p_1 ho_1 ⟨rfl, rfl, rfl, rfl, rfl, trivial⟩ hH ?_
        rintro ⟨t39_1, l_1⟩ p_2 st_1 env H' h hd_2 hH
        refine uC ?_
        refine uA 1 rfl trivial ?_
        refine WpOps.nil ?_
        refine WpC.seq ?_
        refine uF rfl (fun hb => ?_) (fun hb => ?_)
        ·
          replace h := Sh.ite_pos hb h
          refine uI ?_
          refine ⟨_, uD _, ?_⟩
          refine WpC.seq ?_
          refine WpC.block ?_
          refine uC ?_
          refine uA 2 rfl trivial ?_
          refine WpOps.nil ?_
          refine WpC.seqDJ (fun H => H g_2 = some (.cells 69 (cGMacro m_1)) ∧ H g_1 = some (.cells 224 [.lit (.map (some gm_1)), (iA r_1.2.steps)]) ∧ RowAt H 255 9 p_2 (List.map cGExpand_token l_1) ∧ Glob H ∧ True) [.I, .I, .I, .I, .I, .I, .I, .I, .E, .I, .I, .I, .E, .E, .I, .I, .E] [0, 1, 2, 3, 4, 5, 6, 7, 9, 10, 11, 8, 12, 13, 14, 15, 16] (by kernel_rfl) (by kernel_rfl) (by kernel_rfl) ⟨hH.cell (i := 1) rfl, hH.cell (i := 2) rfl, hH.rowAt (i := 0) rfl, hG.up hH, trivial⟩ ?_
          obtain ⟨y_1, hy_1, h⟩ := Sh.bind_some h
          refine WpPj.pn 4 rfl trivial ?_
          have hq_1 := h; have hq_2 := hH
          obtain ⟨g_3, cp_1, rfl⟩ := hq_2.grown (i := 0) rfl (ne_of_ix hy_1)
          have h := hq_1; have hH := hq_2
          refine WpPj.consV rfl rfl rfl rfl (fun _ hi => vP (size := 9) cGExpand_token hy_1 rfl rfl rfl rfl (by kernel_rfl) (by decide)) ?_
          refine WpPj.pn 1 rfl trivial ?_
          refine WpPj.consV (v := (AV.rows 1 (List.map cS y_1.hide))) rfl rfl rfl rfl (fun _ hi => Exact.ldoR (off := 6) cGExpand_token hy_1 hi.2.2.1 rfl rfl (by decide) rfl) ?_
          refine WpPj.pn 2 rfl trivial ?_
          refine WpPj.consV (v := (sA m_1.name)) rfl rfl rfl rfl (fun _ hi => Exact.load rfl rfl hi.1 rfl rfl) ?_
          refine WpPj.consI (v := (AV.rows 1 (List.map cS ([m_1.name] : List (List UInt8))))) rfl rfl rfl rfl (fun _ => uW rfl (by kernel_rfl)) ?_
          obtain ⟨c_2, h⟩ := Sh.chk_some h
          refine WpPj.consF rfl rfl rfl rfl (WpO.callO (t := 9) (size := 1) (es := List.map cS hide_1) rfl rfl rfl hH (w_slices_Clone_Lstring_string c_2) fun p_3 H' hH => ⟨⟨hH.cell (i := 2) rfl, hH.cell (i := 3) rfl, hH.rowAt (i := 1) rfl, hG.up hH, trivial⟩, ?_⟩)
          obtain ⟨c_3, h⟩ := Sh.chk_some h
          refine WpPj.consF rfl rfl rfl rfl (vL cS hide_1 ([m_1.name] : List (List UInt8)) (i := 0) rfl ek23 hH rfl rfl rfl (.rows _) (fun y _ => one_cS y) (by simp) c_3 (by decide) fun p_4 H' hH => ⟨⟨hH.cell (i := 2) rfl, hH.cell (i := 3) rfl, hH.rowAt (i := 1) rfl, hG.up hH, trivial⟩, ?_⟩)
          obtain ⟨r_4, hr_4, h⟩ := Sh.bind_some h
          refine WpPj.consF rfl rfl rfl rfl (WpO.thawK (t := 54) (i := 0) (v := (AV.rows 1 (List.map cS r_4))) hH rfl rfl (fun H' hH => Exact.call rfl rfl rfl (w_expand_with hr_4)) fun H' hH => ⟨⟨hH.cell (i := 1) rfl, hH.cell (i := 2) rfl, hH.rowAt (i := 0) rfl, hG.up hH, trivial⟩, ?_⟩)
          obtain ⟨y_2, hy_2, h⟩ := Sh.bind_some h
          refine WpPj.consV rfl rfl rfl rfl (fun _ hi => vP (size := 9) cGExpand_token hy_2 rfl rfl rfl rfl (by kernel_rfl) (by decide)) ?_
          refine WpPj.pn 1 rfl trivial ?_
          refine WpPj.consL rfl rfl rfl rfl (wA (off := 6) (i := 0) cGExpand_token (y' := (GExpand_token.mk y_2.tok r_4 y_2.mark y_2.op)) (v := (AV.rows 1 (List.map cS r_4))) hy_2 hH rfl rfl rfl rfl rfl rfl rfl rfl rfl fun H' hH => ?_)
          refine WpPj.at 12 (own_set cGExpand_token l_1 (t39_1).toNat (GExpand_token.mk y_2.tok r_4 y_2.mark y_2.op) _) ?_
          refine WpPj.at 42 (own_set cGExpand_token l_1 (t39_1).toNat (GExpand_token.mk y_2.tok r_4 y_2.mark y_2.op) _) ?_
          refine WpPj.at 44 (own_set cGExpand_token l_1 (t39_1).toNat (GExpand_token.mk y_2.tok r_4 y_2.mark y_2.op) _) ?_
          refine WpPj.nil ?_
          refine uJ ?_
          obtain ⟨y_3, hy_3, h⟩ := Sh.bind_some h
          refine uA 2 rfl trivial ?_
          refine uB rfl rfl (vP (size := 9) cGExpand_token hy_3 rfl rfl rfl rfl (by kernel_rfl) (by decide)) ?_
          refine uA 1 rfl trivial ?_
          refine uE rfl rfl (wA (off := 8) (i := 0) cGExpand_token (y' := (GExpand_token.mk y_3.tok y_3.hide y_3.mark false)) (v := (bA false)) hy_3 hH rfl rfl rfl rfl rfl rfl rfl rfl rfl fun H' hH => ?_)
          refine uN 12 (own_set cGExpand_token (l_1.set (t39_1).toNat (GExpand_token.mk y_2.tok r_4 y_2.mark y_2.op)) (t39_1).toNat (GExpand_token.mk y_3.tok y_3.hide y_3.mark false) _) ?_
          refine uN 42 (own_set cGExpand_token (l_1.set (t39_1).toNat (GExpand_token.mk y_2.tok r_4 y_2.mark y_2.op)) (t39_1).toNat (GExpand_token.mk y_3.tok y_3.hide y_3.mark false) _) ?_
          refine uN 44 (own_set cGExpand_token (l_1.set (t39_1).toNat (GExpand_token.mk y_2.tok r_4 y_2.mark y_2.op)) (t39_1).toNat (GExpand_token.mk y_3.tok y_3.hide y_3.mark false) _) ?_
          refine uN 58 (own_set cGExpand_token (l_1.set (t39_1).toNat (GExpand_token.mk y_2.tok r_4 y_2.mark y_2.op)) (t39_1).toNat (GExpand_token.mk y_3.tok y_3.hide y_3.mark false) _) ?_
          refine WpOps.nil ?_
          refine ⟨_, uD _, ?_⟩
          refine uJ ?_
          obtain ⟨c_4, h⟩ := Sh.chk_some h
          refine uA 2 rfl c_4 ?_
          refine WpOps.nil ?_
          obtain rfl := Sh.some_inj h
          exact ⟨_, (uD _), ((t39_1 + (1 : Int)), ((l_1.set (t39_1).toNat (GExpand_token.mk y_2.tok r_4 y_2.mark y_2.op)).set (t39_1).toNat (GExpand_token.mk y_3.tok y_3.hide y_3.mark false))), (some (g_3, cp_1)), rfl, ⟨rfl, rfl, rfl, rfl, rfl, trivial⟩, hH⟩
        ·
          replace h := Sh.ite_neg hb h
          refine uP (i := 1) hH rfl (fun H' hH => ?_)
          obtain rfl := Sh.some_inj h
          have e := hd_2 _ rfl
          subst e
          refine WpC.exit ?_
          exact ⟨(l_1, p_2), ⟨rfl, trivial⟩, hk_1, hH⟩
      ·
        rintro ⟨l_2, p_5⟩ env H' ⟨h, hH⟩
        try dsimp only at h
        refine ⟨_, uD _, ?_⟩
        refine WpC.seq ?_
        refine uC ?_
        refine uA 2 rfl trivial ?_
        refine uN 64 (len_map _ _) ?_
        refine uA 1 rfl trivial ?_
        refine WpOps.nil ?_
        refine uF rfl (fun hb => ?_) (fun hb => ?_)
        ·
          replace h := Sh.ite_pos hb h
          refine uC ?_
          refine uA 2 rfl trivial ?_
          refine WpOps.nil ?_
          have hH := hH.nil 255 9
          refine uP (i := 1) hH rfl (fun H' hH => ?_)
          have hH : Holds H0 [.own 255 9 none (List.map cGExpand_token ([] : List GExpand_token)), .cell g_1 224 [.lit (.map (some gm_1)), (iA r_1.2.steps)], .many (mapP gm_1 r_1.2.ms)] _ := hH
          obtain rfl := Sh.some_inj h
          refine WpC.ret ?_
          exact uU rfl rfl rfl ⟨none, rfl, hH⟩
        ·
          replace h := Sh.ite_neg hb h
          refine uI ?_
          refine ⟨_, uD _, ?_⟩
          refine uC ?_
          refine uA 3 rfl trivial ?_
          refine WpOps.nil ?_
          have hH : Holds H0 [.own 255 9 p_5 (List.map cGExpand_token l_2), .cell g_1 224 [.lit (.map (some gm_1)), (iA r_1.2.steps)], .many (mapP gm_1 r_1.2.ms)] _ := hH
          obtain rfl := Sh.some_inj h
          refine WpC.ret ?_
          exact uU rfl rfl rfl ⟨p_5, rfl, hH⟩
theorem w_expand_work_replaced {H0 H : Heap} (hG : Glob H0) {g_1 : Nat} {gm_1 : Nat} {w_1 : GExpand_work} {m_1 : GMacro} {l_1 : List GExpand_token} {r : (List GExpand_token × Int × Int) × GExpand_work} (h : expand_work_replaced w_1 m_1 l_1 = some r) (hH : Holds H0 [.cell g_1 224 [.lit (.map (some gm_1)), (iA w_1.steps)], .many (mapP gm_1 w_1.ms)] H) : TCall Tryz.prog 152 [(.lit (.pointer (some ⟨g_1, 0, none⟩))), (AV.agg (cGMacro m_1)), (AV.rows 9 (List.map cGExpand_token l_1))] H (fun v H' => ∃ b : (Option (Nat × Nat)), v = (.tup [.own (List.map cGExpand_token r.1.1).length b, (iA r.1.2.1), (iA r.1.2.2)]) ∧ Holds H0 [.own 255 9 b (List.map cGExpand_token r.1.1), .cell g_1 224 [.lit (.map (some gm_1)), (iA r.2.steps)], .many (mapP gm_1 r.2.ms)] H') noE := by
 refine id (TCall.body Tryz.func152 rfl rfl ?_)
 refine uC ?_
 refine uE rfl rfl (vF (v := (AV.agg (cGMacro m_1))) rfl rfl hH fun g_2 H' hH => ?_)
 refine uA 3 rfl trivial ?_
 refine WpOps.nil ?_
 refine uC ?_
 refine uA 1 rfl trivial ?_
 refine WpOps.nil ?_
 refine uC ?_
 refine uA 1 rfl trivial ?_
 refine WpOps.nil ?_
 refine uC ?_
 obtain ⟨y_1, hy_1, h⟩ := Sh.bind_some h
 refine uA 1 rfl trivial ?_
 refine uB (v := (.rop (cGExpand_token y_1))) rfl rfl (uR cGExpand_token hy_1 rfl rfl rfl rfl (by kernel_rfl) (by decide)) ?_
 refine uA 1 rfl trivial ?_
 refine uB (v := (AV.rows 1 (List.map cS y_1.hide))) rfl rfl (uG rfl rfl rfl) ?_
 refine uA 1 rfl trivial ?_
 refine WpOps.nil ?_
 refine WpC.sub (t := 9) (Sub.nil 1) ?_
 refine WpC.sub (t := 10) (Sub.nil 9) ?_
 refine vG (fun x : (Int × List (List GExpand_token) × List GExpand_token × List (List UInt8)) × (Unit) => [(0, (.lit (.pointer (some ⟨g_1, 0, none⟩)))), (4, (.lit (.pointer (some ⟨g_2, 0, none⟩)))), (7, (iA x.1.1)), (9, (AV.rows 1 (List.map (cL 9 cGExpand_token) x.1.2.1))), (10, (AV.rows 9 (List.map cGExpand_token x.1.2.2.1))), (11, (AV.rows 1 (List.map cS x.1.2.2.2)))]) (fun x H' => (expand_work_replaced_j1 w_1 m_1) x.1 = some r ∧ Holds H0 [.cell g_2 69 (cGMacro m_1), .cell g_1 224 [.lit (.map (some gm_1)), (iA w_1.steps)], .many (mapP gm_1 w_1.ms)] H') ?_ ?_
 ·
  refine uC ?_
  refine uA 1 rfl trivial ?_
  refine uB (v := (bA m_1.func)) rfl rfl (Exact.load rfl rfl (hH.cell (i := 0) rfl) rfl rfl) ?_
  refine WpOps.nil ?_
  refine uF rfl (fun hb => ?_) (fun hb => ?_)
  ·
   replace h := Sh.ite_pos hb h
   refine WpC.seq ?_
   refine uC ?_
   obtain ⟨c_1, h⟩ := Sh.chk_some h
   refine uA 1 rfl trivial ?_
   refine uA 1 rfl (show 0 ≤ (1 : Int) ∧ True ∧ True ∧ ((1 : Int)).toNat ≤ (List.map cGExpand_token l_1).length ∧ True from ⟨(by omega), trivial, trivial, (by simp only [List.length_map]; omega), trivial⟩) ?_
   refine uN 20 (rows_drop 9 cGExpand_token l_1 _) ?_
   obtain ⟨r_1, hr_1, h⟩ := Sh.bind_some h
   refine uB (v := (.tup [(AV.rows 1 (List.map (cL 9 cGExpand_token) r_1.1)), (AV.rows 9 (List.map cGExpand_token r_1.2.1)), (iA r_1.2.2)])) rfl rfl (Exact.call rfl rfl rfl (w_expand_parted hr_1)) ?_
   refine uA 7 rfl trivial ?_
   refine WpOps.nil ?_
   refine uC ?_
   refine uA 2 rfl trivial ?_
   refine WpOps.nil ?_
   refine uF rfl (fun hb => ?_) (fun hb => ?_)
   ·
    replace h := Sh.ite_pos hb h
    refine uC ?_
    refine uA 3 rfl trivial ?_
    refine WpOps.nil ?_
    have hH := hH.nil 255 9
    refine uP (i := 1) hH rfl (fun H' hH => ?_)
    have hH : Holds H0 [.own 255 9 none (List.map cGExpand_token ([] : List GExpand_token)), .cell g_1 224 [.lit (.map (some gm_1)), (iA w_1.steps)], .many (mapP gm_1 w_1.ms)] _ := hH
    obtain rfl := Sh.some_inj h
    refine WpC.ret ?_
    exact VEnds.ret3 rfl rfl rfl rfl ⟨none, rfl, hH⟩
   ·
    replace h := Sh.ite_neg hb h
    refine uI ?_
    refine ⟨_, uD _, ?_⟩
    refine uJ ?_
    obtain ⟨y_2, hy_2, h⟩ := Sh.bind_some h
    refine uA 3 rfl trivial ?_
    refine uB (v := (.rop (cGExpand_token y_2))) rfl rfl (uR cGExpand_token hy_2 rfl rfl rfl rfl (by kernel_rfl) (by decide)) ?_
    refine uA 1 rfl trivial ?_
    refine uB (v := (AV.rows 1 (List.map cS y_2.hide))) rfl rfl (uG rfl rfl rfl) ?_
    obtain ⟨r_2, hr_2, h⟩ := Sh.bind_some h
    refine uB (v := (AV.rows 1 (List.map cS r_2))) rfl rfl (Exact.call rfl rfl rfl (w_expand_both hr_2)) ?_
    refine uA 1 rfl trivial ?_
    refine WpOps.nil ?_
    exact ⟨_, (uD _), ((r_1.2.2, r_1.1, r_1.2.1, r_2), ()), ⟨rfl, rfl, rfl, rfl, rfl, rfl, trivial⟩, h, hH⟩
  ·
   replace h := Sh.ite_neg hb h
   refine uI ?_
   exact ⟨_, (uD _), (((0 : Int), ([] : List (List GExpand_token)), ([] : List GExpand_token), y_1.hide), ()), ⟨rfl, rfl, rfl, rfl, rfl, rfl, trivial⟩, h, hH⟩
 ·
  rintro ⟨⟨n_1, args_1, commas_1, hide_1⟩, _⟩ env H' ⟨h, hH⟩
  try dsimp only at h
  refine WpC.seq ?_
  refine uC ?_
  refine uA 3 rfl trivial ?_
  refine uB (v := (iA w_1.steps)) rfl rfl (Exact.load rfl rfl (hH.cell (i := 1) rfl) rfl rfl) ?_
  refine uA 1 rfl trivial ?_
  refine WpOps.nil ?_
  refine uF rfl (fun hb => ?_) (fun hb => ?_)
  ·
   replace h := Sh.ite_pos hb h
   refine uC ?_
   refine uA 3 rfl trivial ?_
   refine WpOps.nil ?_
   have hH := hH.nil 255 9
   refine uP (i := 1) hH rfl (fun H' hH => ?_)
   have hH : Holds H0 [.own 255 9 none (List.map cGExpand_token ([] : List GExpand_token)), .cell g_1 224 [.lit (.map (some gm_1)), (iA w_1.steps)], .many (mapP gm_1 w_1.ms)] _ := hH
   obtain rfl := Sh.some_inj h
   refine WpC.ret ?_
   exact VEnds.ret3 rfl rfl rfl rfl ⟨none, rfl, hH⟩
  ·
   replace h := Sh.ite_neg hb h
   refine uI ?_
   refine ⟨_, uD _, ?_⟩
   refine uC ?_
   refine uA 3 rfl trivial ?_
   refine uB (v := (iA w_1.steps)) rfl rfl (Exact.load rfl rfl (hH.cell (i := 1) rfl) rfl rfl) ?_
   obtain ⟨c_2, h⟩ := Sh.chk_some h
   refine uA 3 rfl c_2 ?_
   refine uE rfl rfl (uQ (cs' := [.lit (.map (some gm_1)), (iA (w_1.steps + (1 : Int)))]) (v := (iA (w_1.steps + (1 : Int)))) rfl rfl hH (i := 1) rfl rfl rfl rfl rfl rfl rfl fun H' hH => ?_)
   refine WpOps.nil ?_
   refine vG (fun x : (Int × List (List GExpand_token)) × (Unit) => [(0, (.lit (.pointer (some ⟨g_1, 0, none⟩)))), (4, (.lit (.pointer (some ⟨g_2, 0, none⟩)))), (7, (iA x.1.1)), (9, (AV.rows 1 (List.map (cL 9 cGExpand_token) x.1.2))), (11, (AV.rows 1 (List.map cS hide_1)))]) (fun x H' => (expand_work_replaced_j2 w_1 m_1 hide_1) x.1 = some r ∧ Holds H0 [.cell g_2 69 (cGMacro m_1), .cell g_1 224 [.lit (.map (some gm_1)), (iA (w_1.steps + (1 : Int)))], .many (mapP gm_1 w_1.ms)] H') ?_ ?_
   ·
    refine uC ?_
    refine uA 1 rfl trivial ?_
    refine uB (v := (bA m_1.func)) rfl rfl (Exact.load rfl rfl (hH.cell (i := 0) rfl) rfl rfl) ?_
    refine WpOps.nil ?_
    refine uF rfl (fun hb => ?_) (fun hb => ?_)
    ·
     replace h := Sh.ite_pos hb h
     refine uC ?_
     refine uB (v := (AV.agg (cGMacro m_1))) rfl rfl (Exact.load rfl rfl (hH.cell (i := 0) rfl) rfl rfl) ?_
     obtain ⟨r_3, hr_3, h⟩ := Sh.bind_some h
     refine uA 2 rfl trivial ?_
     refine uB (v := (.tup [(AV.rows 1 (List.map (cL 9 cGExpand_token) r_3.1)), (iA r_3.2)])) rfl rfl (Exact.call rfl rfl rfl (w_expand_shared hr_3)) ?_
     refine uA 5 rfl trivial ?_
     refine WpOps.nil ?_
     refine uC ?_
     refine uA 2 rfl trivial ?_
     refine WpOps.nil ?_
     refine uF rfl (fun hb => ?_) (fun hb => ?_)
     ·
      replace h := Sh.ite_pos hb h
      refine uC ?_
      refine uA 4 rfl trivial ?_
      refine WpOps.nil ?_
      have hH := hH.nil 255 9
      refine uP (i := 1) hH rfl (fun H' hH => ?_)
      have hH : Holds H0 [.own 255 9 none (List.map cGExpand_token ([] : List GExpand_token)), .cell g_1 224 [.lit (.map (some gm_1)), (iA (w_1.steps + (1 : Int)))], .many (mapP gm_1 w_1.ms)] _ := hH
      obtain rfl := Sh.some_inj h
      refine WpC.ret ?_
      exact VEnds.ret3 rfl rfl rfl rfl ⟨none, rfl, hH⟩
     ·
      replace h := Sh.ite_neg hb h
      refine uI ?_
      exact ⟨_, (uD _), ((n_1, r_3.1), ()), ⟨rfl, rfl, rfl, rfl, rfl, trivial⟩, h, hH⟩
    ·
     replace h := Sh.ite_neg hb h
     refine uI ?_
     exact ⟨_, (uD _), ((n_1, args_1), ()), ⟨rfl, rfl, rfl, rfl, rfl, trivial⟩, h, hH⟩
   ·
    rintro ⟨⟨n_2, args_2⟩, _⟩ env H' ⟨h, hH⟩
    try dsimp only at h
    refine uC ?_
    refine uA 1 rfl trivial ?_
    refine uB (v := (AV.agg (cGMacro m_1))) rfl rfl (Exact.load rfl rfl (hH.cell (i := 0) rfl) rfl rfl) ?_
    obtain ⟨r_4, hr_4, h⟩ := Sh.bind_some h
    refine uA 2 rfl trivial ?_
    have hH := hH.front (i := 2) rfl
    have hH := hH.front (i := 2) rfl
    refine uE rfl rfl (vI 2 (V := fun b : (Option (Nat × Nat)) => (.tup [.own (List.map cGExpand_token r_4.1.1).length b, (iA r_4.1.2)])) (A := fun b : (Option (Nat × Nat)) => [.own 255 9 b (List.map cGExpand_token r_4.1.1), .cell g_1 224 [.lit (.map (some gm_1)), (iA r_4.2.steps)], .many (mapP gm_1 r_4.2.ms)]) rfl rfl rfl hH (fun H1 hl hh => w_expand_work_comes (hG.le hl) hr_4 hh) fun p_1 H' hH => ?_)
    have hH : Holds H0 [.own 255 9 p_1 (List.map cGExpand_token r_4.1.1), .cell g_1 224 [.lit (.map (some gm_1)), (iA r_4.2.steps)], .many (mapP gm_1 r_4.2.ms), .cell g_2 69 (cGMacro m_1)] _ := hH
    have hH := hH.front (i := 1) rfl
    have hH := hH.back 3
    have hH := hH.front (i := 1) rfl
    have hH := hH.back 3
    have hH : Holds H0 [.own 255 9 p_1 (List.map cGExpand_token r_4.1.1), .cell g_2 69 (cGMacro m_1), .cell g_1 224 [.lit (.map (some gm_1)), (iA r_4.2.steps)], .many (mapP gm_1 r_4.2.ms)] _ := hH
    refine uA 5 rfl trivial ?_
    refine WpOps.nil ?_
    refine uC ?_
    refine uA 6 rfl trivial ?_
    refine WpOps.nil ?_
    refine uP (i := 1) hH rfl (fun H' hH => ?_)
    have hH : Holds H0 [.own 255 9 p_1 (List.map cGExpand_token r_4.1.1), .cell g_1 224 [.lit (.map (some gm_1)), (iA r_4.2.steps)], .many (mapP gm_1 r_4.2.ms)] _ := hH
    obtain rfl := Sh.some_inj h
    refine WpC.ret ?_
    exact VEnds.ret3 rfl rfl rfl rfl ⟨p_1, rfl, hH⟩
theorem w_slices_Concat_Lexpand_token_expand_token {H0 H : Heap}  {slices_1 : List (List GExpand_token)} {r : List GExpand_token} (h : slices_Concat_Lexpand_token_expand_token slices_1 = some r) (hH : Holds H0 [] H) : TCall Tryz.prog 154 [(AV.rows 1 (List.map (cL 9 cGExpand_token) slices_1))] H (fun v H' => ∃ b : (Option (Nat × Nat)), v = (.own (List.map cGExpand_token r).length b) ∧ Holds H0 [.own 255 9 b (List.map cGExpand_token r)] H') noE := by
 refine id (TCall.body Tryz.func154 rfl rfl ?_)
 refine uC ?_
 refine uA 1 rfl trivial ?_
 refine WpOps.nil ?_
 refine uC ?_
 refine uA 1 rfl trivial ?_
 refine WpOps.nil ?_
 refine WpC.seq ?_
 refine uC ?_
 refine uA 2 rfl trivial ?_
 refine uN 10 (len_map _ _) ?_
 refine uA 1 rfl trivial ?_
 refine WpOps.nil ?_
 refine vA (fun x : (Int) × (Unit) => [(0, (AV.rows 1 (List.map (cL 9 cGExpand_token) slices_1))), (3, (iA x.1))]) (fun x H' => (slices_Concat_Lexpand_token_expand_token_j1 slices_1) x.1 = some r ∧ Holds H0 [] H') ?_ ?_
 ·
  obtain ⟨o_1, ho_1, hk_1⟩ := Sh.bind_some h
  refine uX (slices_Concat_Lexpand_token_expand_token_b2 slices_1) (fun (s : Int × Int) (a : Unit) => [(0, (AV.rows 1 (List.map (cL 9 cGExpand_token) slices_1))), (3, (iA s.1)), (9, (AV.rows 1 (List.map (cL 9 cGExpand_token) slices_1))), (10, (iA (slices_1.length : Int))), (11, (iA s.2))]) (fun (s : Int × Int) (a : Unit) H' => Holds H0 [] H') o_1 ((0 : Int), (0 : Int)) () ho_1 ⟨rfl, rfl, rfl, rfl, rfl, trivial⟩ hH ?_
  rintro ⟨size_1, t11_1⟩ _ st_1 env H' h hd_1 hH
  refine uC ?_
  refine uA 1 rfl trivial ?_
  refine WpOps.nil ?_
  refine WpC.seq ?_
  refine uF rfl (fun hb => ?_) (fun hb => ?_)
  ·
   replace h := Sh.ite_pos hb h
   refine uI ?_
   refine ⟨_, uD _, ?_⟩
   refine WpC.seq ?_
   refine WpC.block ?_
   refine uC ?_
   obtain ⟨y_1, hy_1, h⟩ := Sh.bind_some h
   refine uB (v := (.rop ((cL 9 cGExpand_token) y_1))) rfl rfl (uR (cL 9 cGExpand_token) hy_1 rfl rfl rfl rfl (by kernel_rfl) (by decide)) ?_
   refine uB (v := (AV.rows 9 (List.map cGExpand_token y_1))) rfl rfl (uG rfl rfl rfl) ?_
   refine uA 1 rfl trivial ?_
   refine WpOps.nil ?_
   refine uC ?_
   refine uA 3 rfl trivial ?_
   refine uN 17 (len_map _ _) ?_
   obtain ⟨c_1, h⟩ := Sh.chk_some h
   refine uA 2 rfl c_1 ?_
   refine WpOps.nil ?_
   refine uC ?_
   refine uA 2 rfl trivial ?_
   refine WpOps.nil ?_
   refine uF rfl (fun hb => ?_) (fun hb => ?_)
   ·
    replace h := Sh.ite_pos hb h
    cases h
   ·
    replace h := Sh.ite_neg hb h
    refine uI ?_
    refine ⟨_, uD _, ?_⟩
    refine uJ ?_
    obtain ⟨c_2, h⟩ := Sh.chk_some h
    refine uA 2 rfl c_2 ?_
    refine WpOps.nil ?_
    obtain rfl := Sh.some_inj h
    exact ⟨_, (uD _), ((size_1 + (y_1.length : Int)), (t11_1 + (1 : Int))), (), rfl, ⟨rfl, rfl, rfl, rfl, rfl, trivial⟩, hH⟩
  ·
   replace h := Sh.ite_neg hb h
   obtain rfl := Sh.some_inj h
   have e := hd_1 _ rfl
   subst e
   refine WpC.exit ?_
   exact ⟨(size_1, ()), ⟨rfl, rfl, trivial⟩, hk_1, hH⟩
 ·
  rintro ⟨size_2, _⟩ env H' ⟨h, hH⟩
  try dsimp only at h
  refine ⟨_, uD _, ?_⟩
  refine uC ?_
  obtain ⟨c_3, h⟩ := Sh.chk_some h
  refine uA 1 rfl trivial ?_
  refine uE rfl rfl (WpO.callQ (F := fun p => .own ([] : List (List AV)).length p) (t := 255) (size := 9) (es := []) rfl rfl rfl hH (w_GrowK c_3) fun p_1 H' hH => ?_)
  have hH : Holds H0 [.own 255 9 p_1 (List.map cGExpand_token ([] : List GExpand_token))] _ := hH
  refine uA 1 rfl trivial ?_
  refine WpOps.nil ?_
  refine WpC.seq ?_
  refine uC ?_
  refine uA 2 rfl trivial ?_
  refine uN 26 (len_map _ _) ?_
  refine uA 1 rfl trivial ?_
  refine WpOps.nil ?_
  refine vA (fun x : (List GExpand_token) × ((Option (Nat × Nat))) => [(6, (.own (List.map cGExpand_token x.1).length x.2))]) (fun x H' => slices_Concat_Lexpand_token_expand_token_j3 x.1 = some r ∧ Holds H0 [.own 255 9 x.2 (List.map cGExpand_token x.1)] H') ?_ ?_
  ·
   obtain ⟨o_2, ho_2, hk_2⟩ := Sh.bind_some h
   refine uX (slices_Concat_Lexpand_token_expand_token_b4 slices_1) (fun (s : Int × List GExpand_token) (a : (Option (Nat × Nat))) => [(6, (.own (List.map cGExpand_token s.2).length a)), (25, (AV.rows 1 (List.map (cL 9 cGExpand_token) slices_1))), (26, (iA (slices_1.length : Int))), (27, (iA s.1))]) (fun (s : Int × List GExpand_token) (a : (Option (Nat × Nat))) H' => Holds H0 [.own 255 9 a (List.map cGExpand_token s.2)] H') o_2 ((0 : Int), ([] : List GExpand_token)) p_1 ho_2 ⟨rfl, rfl, rfl, rfl, trivial⟩ hH ?_
   rintro ⟨t27_1, newslice_1⟩ p_2 st_2 env H' h hd_2 hH
   refine uC ?_
   refine uA 1 rfl trivial ?_
   refine WpOps.nil ?_
   refine WpC.seq ?_
   refine uF rfl (fun hb => ?_) (fun hb => ?_)
   ·
    replace h := Sh.ite_pos hb h
    refine uI ?_
    refine ⟨_, uD _, ?_⟩
    refine WpC.seq ?_
    refine WpC.block ?_
    refine uC ?_
    obtain ⟨y_2, hy_2, h⟩ := Sh.bind_some h
    refine uB (v := (.rop ((cL 9 cGExpand_token) y_2))) rfl rfl (uR (cL 9 cGExpand_token) hy_2 rfl rfl rfl rfl (by kernel_rfl) (by decide)) ?_
    refine uB (v := (AV.rows 9 (List.map cGExpand_token y_2))) rfl rfl (uG rfl rfl rfl) ?_
    refine uA 1 rfl trivial ?_
    refine WpOps.nil ?_
    refine uJ ?_
    obtain ⟨c_4, h⟩ := Sh.chk_some h
    refine uA 2 rfl trivial ?_
    refine uE rfl rfl (WpO.pushA cGExpand_token newslice_1 y_2 (i := 0) rfl ek228 hH rfl rfl rfl (.rows _) (fun y _ => one_cGExpand_token y) c_4 (by decide) fun p_3 H' hH => ?_)
    refine uA 1 rfl trivial ?_
    refine WpOps.nil ?_
    refine ⟨_, uD _, ?_⟩
    refine uJ ?_
    obtain ⟨c_5, h⟩ := Sh.chk_some h
    refine uA 2 rfl c_5 ?_
    refine WpOps.nil ?_
    obtain rfl := Sh.some_inj h
    exact ⟨_, (uD _), ((t27_1 + (1 : Int)), (newslice_1 ++ y_2)), p_3, rfl, ⟨rfl, rfl, rfl, rfl, trivial⟩, hH⟩
   ·
    replace h := Sh.ite_neg hb h
    obtain rfl := Sh.some_inj h
    have e := hd_2 _ rfl
    subst e
    refine WpC.exit ?_
    exact ⟨(newslice_1, p_2), ⟨rfl, trivial⟩, hk_2, hH⟩
  ·
   rintro ⟨newslice_2, p_4⟩ env H' ⟨h, hH⟩
   try dsimp only at h
   refine ⟨_, uD _, ?_⟩
   refine uC ?_
   refine uA 2 rfl trivial ?_
   refine WpOps.nil ?_
   have hH : Holds H0 [.own 255 9 p_4 (List.map cGExpand_token newslice_2)] _ := hH
   obtain rfl := Sh.some_inj h
   refine WpC.ret ?_
   exact uH rfl rfl ⟨p_4, rfl, hH⟩
theorem w_expand_work_expand {H0 H : Heap} (hG : Glob H0) {g_1 : Nat} {gm_1 : Nat} {w_1 : GExpand_work} {l_1 : List GExpand_token} {r : (List GExpand_token × Int) × GExpand_work} (h : expand_work_expand w_1 l_1 = some r) (hH : Holds H0 [.cell g_1 224 [.lit (.map (some gm_1)), (iA w_1.steps)], .many (mapP gm_1 w_1.ms)] H) : TCall Tryz.prog 131 [(.lit (.pointer (some ⟨g_1, 0, none⟩))), (AV.rows 9 (List.map cGExpand_token l_1))] H (fun v H' => ∃ b : Unit, v = (.tup [(AV.rows 9 (List.map cGExpand_token r.1.1)), (iA r.1.2)]) ∧ Holds H0 [.cell g_1 224 [.lit (.map (some gm_1)), (iA r.2.steps)], .many (mapP gm_1 r.2.ms)] H') noE := by
  refine id (TCall.body Tryz.func131 rfl rfl ?_)
  refine uC ?_
  refine uA 2 rfl trivial ?_
  refine WpOps.nil ?_
  refine uC ?_
  refine uA 1 rfl trivial ?_
  have hH := hH.nil 255 9
  refine WpOps.nil ?_
  refine wM (fun x : (List GExpand_token × GExpand_work) × ((Option (Nat × Nat))) => [(6, (.own (List.map cGExpand_token x.1.1).length x.2))]) (fun x H' => expand_work_expand_j1 x.1 = some r ∧ Holds H0 [.own 255 9 x.2 (List.map cGExpand_token x.1.1), .cell g_1 224 [.lit (.map (some gm_1)), (iA x.1.2.steps)], .many (mapP gm_1 x.1.2.ms)] H') ?_ ?_
  ·
    obtain ⟨o_1, ho_1, hk_1⟩ := Sh.bind_some h
    refine uX expand_work_expand_b2 (fun (s : List GExpand_token × List GExpand_token × GExpand_work) (a : (Option (Nat × Nat))) => [(0, (.lit (.pointer (some ⟨g_1, 0, none⟩)))), (1, (AV.rows 9 (List.map cGExpand_token s.1))), (6, (.own (List.map cGExpand_token s.2.1).length a))]) (fun (s : List GExpand_token × List GExpand_token × GExpand_work) (a : (Option (Nat × Nat))) H' => Holds H0 [.own 255 9 a (List.map cGExpand_token s.2.1), .cell g_1 224 [.lit (.map (some gm_1)), (iA s.2.2.steps)], .many (mapP gm_1 s.2.2.ms)] H') o_1 (l_1, ([] : List GExpand_token), w_1) none ho_1 ⟨rfl, rfl, rfl, trivial⟩ hH ?_
    rintro ⟨l_2, out_1, w_2⟩ p_1 st_1 env H' h hd_1 hH
    refine WpC.seq ?_
    refine uC ?_
    refine uA 2 rfl trivial ?_
    refine uN 15 (len_map _ _) ?_
    refine uA 1 rfl trivial ?_
    refine WpOps.nil ?_
    refine uF rfl (fun hb => ?_) (fun hb => ?_)
    ·
      replace h := Sh.ite_pos hb h
      refine uI ?_
      refine ⟨_, uD _, ?_⟩
      refine WpC.block ?_
      refine uC ?_
      obtain ⟨y_1, hy_1, h⟩ := Sh.bind_some h
      refine uA 1 rfl trivial ?_
      refine uB (v := (.rop (cGExpand_token y_1))) rfl rfl (uR cGExpand_token hy_1 rfl rfl rfl rfl (by kernel_rfl) (by decide)) ?_
      refine uB (v := (AV.agg (cGExpand_token y_1))) rfl rfl (uG rfl rfl rfl) ?_
      refine uE rfl rfl (vK (z' := cGExpand_token (GExpand_token.mk (GTok.mk (0 : Int) ([] : List UInt8) (0 : Int) (0 : Int) (0 : Int) false) ([] : List (List UInt8)) false false)) rfl rfl (.cons (.refl _) (.cons (.refl _) (.cons (.refl _) (.cons (.refl _) (.cons (.refl _) (.cons (.refl _) (.cons (Sub.nil _) (.cons (.refl _) (.cons (.refl _) .nil))))))))) hH fun g_2 H' hH => ?_)
      refine uE rfl rfl (uQ (cs' := (cGExpand_token y_1)) (v := (AV.agg (cGExpand_token y_1))) rfl rfl hH (i := 0) rfl rfl rfl rfl rfl rfl rfl fun H' hH => ?_)
      refine WpOps.nil ?_
      refine wJ (fun H => H g_2 = some (.cells 255 (cGExpand_token y_1)) ∧ H g_1 = some (.cells 224 [.lit (.map (some gm_1)), (iA w_2.steps)]) ∧ RowAt H 255 9 p_1 (List.map cGExpand_token out_1) ∧ H gm_1 = some (.map (kvM w_2.ms)) ∧ Glob H ∧ True) [.I, .I, .I, .I, .I, .I, .I, .I, .I, .I, .I, .E, .E] [0, 1, 2, 3, 4, 5, 6, 7, 8, 9, 10, 11, 12, 13] (by kernel_rfl) (by kernel_rfl) ⟨hH.cell (i := 0) rfl, hH.cell (i := 2) rfl, hH.rowAt (i := 1) rfl, hH.mapAt (i := 3) rfl, hG.up hH, trivial⟩ ?_
      refine uK 3 rfl trivial ?_
      refine vD (v := (.lit (.map (some gm_1)))) rfl rfl rfl rfl (fun _ hi => Exact.load rfl rfl hi.2.1 rfl rfl) ?_
      refine uK 2 rfl trivial ?_
      refine vD (v := (sA y_1.tok.text)) rfl rfl rfl rfl (fun _ hi => Exact.load rfl rfl hi.1 rfl rfl) ?_
      refine vD (v := (.tup [(AV.agg (cGMacro ((getM y_1.tok.text w_2.ms).getD (GMacro.mk ([] : List UInt8) false ([] : List (List UInt8)) false ([] : List GTok))))), (bA (getM y_1.tok.text w_2.ms).isSome)])) rfl rfl rfl rfl (fun _ hi => Exact.lookM rfl (by kernel_rfl) rfl hi.2.2.2.1 rfl) ?_
      refine uK 3 rfl trivial ?_
      refine vE rfl rfl rfl rfl (vK (z' := cGMacro (GMacro.mk ([] : List UInt8) false ([] : List (List UInt8)) false ([] : List GTok))) rfl rfl (.cons (.refl _) (.cons (.refl _) (.cons (Sub.nil _) (.cons (.refl _) (.cons (Sub.nil _) .nil))))) hH fun g_3 H' hH => ⟨⟨hH.cell (i := 1) rfl, hH.cell (i := 3) rfl, hH.rowAt (i := 2) rfl, hH.mapAt (i := 4) rfl, hG.up hH, trivial⟩, ?_⟩)
      refine vE rfl rfl rfl rfl (uQ (cs' := (cGMacro ((getM y_1.tok.text w_2.ms).getD (GMacro.mk ([] : List UInt8) false ([] : List (List UInt8)) false ([] : List GTok))))) (v := (AV.agg (cGMacro ((getM y_1.tok.text w_2.ms).getD (GMacro.mk ([] : List UInt8) false ([] : List (List UInt8)) false ([] : List GTok)))))) rfl rfl hH (i := 0) rfl rfl rfl rfl rfl rfl rfl fun H' hH => ⟨⟨hH.cell (i := 1) rfl, hH.cell (i := 3) rfl, hH.rowAt (i := 2) rfl, hH.mapAt (i := 4) rfl, hG.up hH, trivial⟩, ?_⟩)
      refine uK 1 rfl trivial ?_
      refine WpPi.nil ?_
      refine WpC.seq ?_
      refine uC ?_
      refine uA 2 rfl trivial ?_
      refine uB (v := (iA y_1.tok.kind)) rfl rfl (Exact.load rfl rfl (hH.cell (i := 1) rfl) rfl rfl) ?_
      refine uA 1 rfl trivial ?_
      obtain ⟨b_1, g_4, h⟩ := Sh.bind_some h
      refine uM 7 41 (bA b_1) rfl ?_ ?_
      ·
        refine uA 1 rfl trivial ?_
        refine uL 35 rfl (fun hb => ?_) (fun hb => ?_)
        ·
          replace g_4 := Sh.ite_pos hb g_4
          refine uA 6 rfl trivial ?_
          refine WpOps.nil ?_
          obtain rfl := Sh.some_inj g_4
          exact ⟨rfl, rfl⟩
        ·
          replace g_4 := Sh.ite_neg hb g_4
          refine uB (v := (AV.agg (cGExpand_token y_1))) rfl rfl (Exact.load rfl rfl (hH.cell (i := 1) rfl) rfl rfl) ?_
          refine uA 2 rfl trivial ?_
          refine uB (v := (sA y_1.tok.text)) rfl rfl (Exact.load rfl rfl (hH.cell (i := 1) rfl) rfl rfl) ?_
          obtain ⟨r_1, hr_1, g_4⟩ := Sh.bind_some g_4
          refine uB (v := (bA r_1)) rfl rfl (Exact.call rfl rfl rfl (w_expand_token_hides hr_1)) ?_
          refine uA 1 rfl trivial ?_
          refine WpOps.nil ?_
          obtain rfl := Sh.some_inj g_4
          exact ⟨rfl, rfl⟩
      intro env
      obtain ⟨b_2, g_5, h⟩ := Sh.bind_some h
      refine uM 4 45 (bA b_2) rfl ?_ ?_
      ·
        refine uA 1 rfl trivial ?_
        refine uL 42 rfl (fun hb => ?_) (fun hb => ?_)
        ·
          replace g_5 := Sh.ite_pos hb g_5
          refine uA 3 rfl trivial ?_
          refine WpOps.nil ?_
          obtain rfl := Sh.some_inj g_5
          exact ⟨rfl, rfl⟩
        ·
          replace g_5 := Sh.ite_neg hb g_5
          refine uA 3 rfl trivial ?_
          refine WpOps.nil ?_
          obtain rfl := Sh.some_inj g_5
          exact ⟨rfl, rfl⟩
      intro env
      obtain ⟨b_3, g_6, h⟩ := Sh.bind_some h
      refine uM 16 61 (bA b_3) rfl ?_ ?_
      ·
        refine uA 1 rfl trivial ?_
        refine uL 46 rfl (fun hb => ?_) (fun hb => ?_)
        ·
          replace g_6 := Sh.ite_pos hb g_6
          refine uA 15 rfl trivial ?_
          refine WpOps.nil ?_
          obtain rfl := Sh.some_inj g_6
          exact ⟨rfl, rfl⟩
        ·
          replace g_6 := Sh.ite_neg hb g_6
          refine uA 1 rfl trivial ?_
          refine uB (v := (bA ((getM y_1.tok.text w_2.ms).getD (GMacro.mk ([] : List UInt8) false ([] : List (List UInt8)) false ([] : List GTok))).func)) rfl rfl (Exact.load rfl rfl (hH.cell (i := 0) rfl) rfl rfl) ?_
          obtain ⟨b_4, g_7, g_6⟩ := Sh.bind_some g_6
          refine uM 12 60 (bA b_4) rfl ?_ ?_
          ·
            refine uA 1 rfl trivial ?_
            refine uL 49 rfl (fun hb => ?_) (fun hb => ?_)
            ·
              replace g_7 := Sh.ite_pos hb g_7
              refine uA 2 rfl trivial ?_
              refine uN 51 (len_map _ _) ?_
              refine uA 1 rfl trivial ?_
              obtain ⟨b_5, g_8, g_7⟩ := Sh.bind_some g_7
              refine uM 7 59 (bA b_5) rfl ?_ ?_
              ·
                refine uA 1 rfl trivial ?_
                refine uL 53 rfl (fun hb => ?_) (fun hb => ?_)
                ·
                  replace g_8 := Sh.ite_pos hb g_8
                  refine uA 6 rfl trivial ?_
                  refine WpOps.nil ?_
                  obtain rfl := Sh.some_inj g_8
                  exact ⟨rfl, rfl⟩
                ·
                  replace g_8 := Sh.ite_neg hb g_8
                  obtain ⟨y_2, hy_2, g_8⟩ := Sh.bind_some g_8
                  refine uA 1 rfl trivial ?_
                  refine uB (v := (.rop (cGExpand_token y_2))) rfl rfl (uR cGExpand_token hy_2 rfl rfl rfl rfl (by kernel_rfl) (by decide)) ?_
                  refine uB (v := (AV.agg (cGExpand_token y_2))) rfl rfl (uG rfl rfl rfl) ?_
                  obtain ⟨r_2, hr_2, g_8⟩ := Sh.bind_some g_8
                  refine uB (v := (bA r_2)) rfl rfl (Exact.call rfl rfl rfl (w_expand_token_sign hr_2)) ?_
                  refine uA 2 rfl trivial ?_
                  refine WpOps.nil ?_
                  obtain rfl := Sh.some_inj g_8
                  exact ⟨rfl, rfl⟩
              intro env
              refine uA 1 rfl trivial ?_
              refine WpOps.nil ?_
              obtain rfl := Sh.some_inj g_7
              exact ⟨rfl, rfl⟩
            ·
              replace g_7 := Sh.ite_neg hb g_7
              refine uA 11 rfl trivial ?_
              refine WpOps.nil ?_
              obtain rfl := Sh.some_inj g_7
              exact ⟨rfl, rfl⟩
          intro env
          refine uA 1 rfl trivial ?_
          refine WpOps.nil ?_
          obtain rfl := Sh.some_inj g_6
          exact ⟨rfl, rfl⟩
      intro env
      refine WpOps.nil ?_
      refine uF rfl (fun hb => ?_) (fun hb => ?_)
      ·
        replace h := Sh.ite_pos hb h
        refine WpC.seq ?_
        refine uC ?_
        refine uA 1 rfl trivial ?_
        refine uB (v := (AV.agg (cGExpand_token y_1))) rfl rfl (Exact.load rfl rfl (hH.cell (i := 1) rfl) rfl rfl) ?_
        refine uB (v := (AV.rows 9 (List.map cGExpand_token ([y_1] : List GExpand_token)))) rfl rfl (uW rfl (by kernel_rfl)) ?_
        obtain ⟨c_1, h⟩ := Sh.chk_some h
        refine uE rfl rfl (vL cGExpand_token out_1 ([y_1] : List GExpand_token) (i := 2) rfl ek228 hH rfl rfl rfl (.rows _) (fun y _ => one_cGExpand_token y) (by simp) c_1 (by decide) fun p_2 H' hH => ?_)
        refine uA 1 rfl trivial ?_
        refine WpOps.nil ?_
        refine uC ?_
        refine uA 2 rfl trivial ?_
        refine uN 67 (len_map _ _) ?_
        refine uA 1 rfl trivial ?_
        refine WpOps.nil ?_
        refine uF rfl (fun hb => ?_) (fun hb => ?_)
        ·
          replace h := Sh.ite_pos hb h
          refine uC ?_
          refine uA 2 rfl trivial ?_
          refine WpOps.nil ?_
          refine WpC.sub (t := 4) (Sub.nil 9) ?_
          refine uP (i := 0) hH rfl (fun H' hH => ?_)
          refine uP (i := 0) hH rfl (fun H' hH => ?_)
          refine uP (i := 0) hH rfl (fun H' hH => ?_)
          have hH : Holds H0 [.cell g_1 224 [.lit (.map (some gm_1)), (iA w_2.steps)], .many (mapP gm_1 w_2.ms)] _ := hH
          obtain rfl := Sh.some_inj h
          have e := hd_1 _ rfl
          subst e
          have h := hk_1
          obtain rfl := Sh.some_inj h
          refine WpC.ret ?_
          exact uU rfl rfl rfl ⟨(), rfl, hH⟩
        ·
          replace h := Sh.ite_neg hb h
          refine uI ?_
          refine ⟨_, uD _, ?_⟩
          refine uC ?_
          obtain ⟨c_2, h⟩ := Sh.chk_some h
          refine uA 1 rfl trivial ?_
          refine uA 1 rfl (show 0 ≤ (1 : Int) ∧ True ∧ True ∧ ((1 : Int)).toNat ≤ (List.map cGExpand_token l_2).length ∧ True from ⟨(by omega), trivial, trivial, (by simp only [List.length_map]; omega), trivial⟩) ?_
          refine uN 70 (rows_drop 9 cGExpand_token l_2 _) ?_
          refine uA 1 rfl trivial ?_
          refine WpOps.nil ?_
          refine WpC.exitD ?_
          obtain ⟨_, hle_1, hH⟩ := hH.lose_ (i := 0) rfl
          obtain ⟨_, hle_2, hH⟩ := hH.lose_ (i := 0) rfl
          obtain rfl := Sh.some_inj h
          exact ⟨_, (uY hle_2 hle_1), ((l_2.drop ((1 : Int)).toNat), (out_1 ++ ([y_1] : List GExpand_token)), w_2), p_2, rfl, ⟨rfl, rfl, rfl, trivial⟩, hH⟩
      ·
        replace h := Sh.ite_neg hb h
        refine uI ?_
        refine ⟨_, uD _, ?_⟩
        refine uC ?_
        refine uA 1 rfl trivial ?_
        refine uB (v := (AV.agg (cGMacro ((getM y_1.tok.text w_2.ms).getD (GMacro.mk ([] : List UInt8) false ([] : List (List UInt8)) false ([] : List GTok)))))) rfl rfl (Exact.load rfl rfl (hH.cell (i := 0) rfl) rfl rfl) ?_
        obtain ⟨r_3, hr_3, h⟩ := Sh.bind_some h
        refine uA 1 rfl trivial ?_
        have hH := hH.front (i := 4) rfl
        have hH := hH.front (i := 4) rfl
        refine uE rfl rfl (vI 2 (V := fun b : (Option (Nat × Nat)) => (.tup [.own (List.map cGExpand_token r_3.1.1).length b, (iA r_3.1.2.1), (iA r_3.1.2.2)])) (A := fun b : (Option (Nat × Nat)) => [.own 255 9 b (List.map cGExpand_token r_3.1.1), .cell g_1 224 [.lit (.map (some gm_1)), (iA r_3.2.steps)], .many (mapP gm_1 r_3.2.ms)]) rfl rfl rfl hH (fun H1 hl hh => w_expand_work_replaced (hG.le hl) hr_3 hh) fun p_3 H' hH => ?_)
        have hH : Holds H0 [.own 255 9 p_3 (List.map cGExpand_token r_3.1.1), .cell g_1 224 [.lit (.map (some gm_1)), (iA r_3.2.steps)], .many (mapP gm_1 r_3.2.ms), .cell g_3 69 (cGMacro ((getM y_1.tok.text w_2.ms).getD (GMacro.mk ([] : List UInt8) false ([] : List (List UInt8)) false ([] : List GTok)))), .cell g_2 255 (cGExpand_token y_1), .own 255 9 p_1 (List.map cGExpand_token out_1)] _ := hH
        have hH := hH.front (i := 1) rfl
        have hH := hH.back 5
        have hH := hH.front (i := 1) rfl
        have hH := hH.back 5
        have hH : Holds H0 [.own 255 9 p_3 (List.map cGExpand_token r_3.1.1), .cell g_3 69 (cGMacro ((getM y_1.tok.text w_2.ms).getD (GMacro.mk ([] : List UInt8) false ([] : List (List UInt8)) false ([] : List GTok)))), .cell g_2 255 (cGExpand_token y_1), .own 255 9 p_1 (List.map cGExpand_token out_1), .cell g_1 224 [.lit (.map (some gm_1)), (iA r_3.2.steps)], .many (mapP gm_1 r_3.2.ms)] _ := hH
        refine uA 7 rfl trivial ?_
        refine WpOps.nil ?_
        refine WpC.seq ?_
        refine uC ?_
        refine uA 2 rfl trivial ?_
        refine WpOps.nil ?_
        refine uF rfl (fun hb => ?_) (fun hb => ?_)
        ·
          replace h := Sh.ite_pos hb h
          refine uC ?_
          refine uA 3 rfl trivial ?_
          refine WpOps.nil ?_
          refine WpC.sub (t := 4) (Sub.nil 9) ?_
          refine uP (i := 0) hH rfl (fun H' hH => ?_)
          refine uP (i := 0) hH rfl (fun H' hH => ?_)
          refine uP (i := 0) hH rfl (fun H' hH => ?_)
          refine uP (i := 0) hH rfl (fun H' hH => ?_)
          have hH : Holds H0 [.cell g_1 224 [.lit (.map (some gm_1)), (iA r_3.2.steps)], .many (mapP gm_1 r_3.2.ms)] _ := hH
          obtain rfl := Sh.some_inj h
          have e := hd_1 _ rfl
          subst e
          have h := hk_1
          obtain rfl := Sh.some_inj h
          refine WpC.ret ?_
          exact uU rfl rfl rfl ⟨(), rfl, hH⟩
        ·
          replace h := Sh.ite_neg hb h
          refine uI ?_
          refine ⟨_, uD _, ?_⟩
          refine uC ?_
          obtain ⟨c_3, h⟩ := Sh.chk_some h
          obtain ⟨c_4, h⟩ := Sh.chk_some h
          refine uA 3 rfl c_3 ?_
          refine uA 1 rfl (show 0 ≤ (r_3.1.2.1 + (1 : Int)) ∧ True ∧ True ∧ ((r_3.1.2.1 + (1 : Int))).toNat ≤ (List.map cGExpand_token l_2).length ∧ True from ⟨(by omega), trivial, trivial, (by simp only [List.length_map]; omega), trivial⟩) ?_
          refine uN 85 (rows_drop 9 cGExpand_token l_2 _) ?_
          refine uA 1 rfl trivial ?_
          refine WpOps.nil ?_
          refine uP (i := 1) hH rfl (fun H' hH => ?_)
          refine wM (fun x : (List GExpand_token × List GExpand_token) × ((Option (Nat × Nat))) => [(0, (.lit (.pointer (some ⟨g_1, 0, none⟩)))), (6, (.own (List.map cGExpand_token out_1).length p_1)), (10, (.own (List.map cGExpand_token x.1.2).length x.2)), (13, (AV.rows 9 (List.map cGExpand_token x.1.1)))]) (fun x H' => (expand_work_expand_j3 out_1 r_3) x.1 = some st_1 ∧ Holds H0 [.own 255 9 x.2 (List.map cGExpand_token x.1.2), .own 255 9 p_1 (List.map cGExpand_token out_1), .cell g_1 224 [.lit (.map (some gm_1)), (iA r_3.2.steps)], .many (mapP gm_1 r_3.2.ms)] H') ?_ ?_
          ·
            refine uC ?_
            refine uA 2 rfl trivial ?_
            refine uN 88 (len_map _ _) ?_
            refine uA 2 rfl trivial ?_
            refine WpOps.nil ?_
            refine uF rfl (fun hb => ?_) (fun hb => ?_)
            ·
              replace h := Sh.ite_pos hb h
              refine uJ ?_
              refine uA 3 rfl trivial ?_
              refine uB (v := (bA y_1.tok.blank)) rfl rfl (Exact.load rfl rfl (hH.cell (i := 1) rfl) rfl rfl) ?_
              obtain ⟨y_3, hy_3, h⟩ := Sh.bind_some h
              have hq_1 := h; have hq_2 := hH
              obtain ⟨g_9, cp_1, rfl⟩ := hq_2.grown (i := 0) rfl (ne_of_ix hy_3)
              have h := hq_1; have hH := hq_2
              refine uB rfl rfl (vP (size := 9) cGExpand_token hy_3 rfl rfl rfl rfl (by kernel_rfl) (by decide)) ?_
              refine uA 2 rfl trivial ?_
              refine uE rfl rfl (wA (off := 5) (i := 0) cGExpand_token (y' := (GExpand_token.mk (GTok.mk y_3.tok.kind y_3.tok.text y_3.tok.file_ y_3.tok.from_ y_3.tok.to y_1.tok.blank) y_3.hide y_3.mark y_3.op)) (v := (bA y_1.tok.blank)) hy_3 hH rfl rfl rfl rfl rfl rfl rfl rfl rfl fun H' hH => ?_)
              refine uN 10 (own_set cGExpand_token r_3.1.1 ((0 : Int)).toNat (GExpand_token.mk (GTok.mk y_3.tok.kind y_3.tok.text y_3.tok.file_ y_3.tok.from_ y_3.tok.to y_1.tok.blank) y_3.hide y_3.mark y_3.op) _) ?_
              refine uN 87 (own_set cGExpand_token r_3.1.1 ((0 : Int)).toNat (GExpand_token.mk (GTok.mk y_3.tok.kind y_3.tok.text y_3.tok.file_ y_3.tok.from_ y_3.tok.to y_1.tok.blank) y_3.hide y_3.mark y_3.op) _) ?_
              refine uN 90 (own_set cGExpand_token r_3.1.1 ((0 : Int)).toNat (GExpand_token.mk (GTok.mk y_3.tok.kind y_3.tok.text y_3.tok.file_ y_3.tok.from_ y_3.tok.to y_1.tok.blank) y_3.hide y_3.mark y_3.op) _) ?_
              refine WpOps.nil ?_
              obtain ⟨_, hle_3, hH⟩ := hH.lose_ (i := 1) rfl
              exact ⟨_, hle_3, (((l_2.drop ((r_3.1.2.1 + (1 : Int))).toNat), (r_3.1.1.set ((0 : Int)).toNat (GExpand_token.mk (GTok.mk y_3.tok.kind y_3.tok.text y_3.tok.file_ y_3.tok.from_ y_3.tok.to y_1.tok.blank) y_3.hide y_3.mark y_3.op))), (some (g_9, cp_1))), ⟨rfl, rfl, rfl, rfl, trivial⟩, h, hH⟩
            ·
              replace h := Sh.ite_neg hb h
              refine uC ?_
              refine uA 2 rfl trivial ?_
              refine uB (v := (bA y_1.tok.blank)) rfl rfl (Exact.load rfl rfl (hH.cell (i := 1) rfl) rfl rfl) ?_
              obtain ⟨b_6, g_10, h⟩ := Sh.bind_some h
              refine uM 5 105 (bA b_6) rfl ?_ ?_
              ·
                refine uA 1 rfl trivial ?_
                refine uL 101 rfl (fun hb => ?_) (fun hb => ?_)
                ·
                  replace g_10 := Sh.ite_pos hb g_10
                  refine uA 2 rfl trivial ?_
                  refine uN 103 (len_map _ _) ?_
                  refine uA 2 rfl trivial ?_
                  refine WpOps.nil ?_
                  obtain rfl := Sh.some_inj g_10
                  exact ⟨rfl, rfl⟩
                ·
                  replace g_10 := Sh.ite_neg hb g_10
                  refine uA 4 rfl trivial ?_
                  refine WpOps.nil ?_
                  obtain rfl := Sh.some_inj g_10
                  exact ⟨rfl, rfl⟩
              intro env
              refine uA 1 rfl trivial ?_
              refine WpOps.nil ?_
              refine uF rfl (fun hb => ?_) (fun hb => ?_)
              ·
                replace h := Sh.ite_pos hb h
                refine uC ?_
                obtain ⟨c_5, h⟩ := Sh.chk_some h
                refine uA 1 rfl trivial ?_
                refine uE rfl rfl (WpO.callO (t := 255) (size := 9) (es := List.map cGExpand_token (l_2.drop ((r_3.1.2.1 + (1 : Int))).toNat)) rfl rfl rfl hH (w_slices_Clone_Lexpand_token_expand_token c_5) fun p_4 H' hH => ?_)
                refine uA 1 rfl trivial ?_
                refine WpOps.nil ?_
                refine WpC.closedUp ?_
                refine uJ ?_
                obtain ⟨y_4, hy_4, h⟩ := Sh.bind_some h
                refine uA 1 rfl trivial ?_
                have hq_3 := h; have hq_4 := hH
                obtain ⟨g_11, cp_2, rfl⟩ := hq_4.grown (i := 0) rfl (ne_of_ix hy_4)
                have h := hq_3; have hH := hq_4
                refine uB rfl rfl (vP (size := 9) cGExpand_token hy_4 rfl rfl rfl rfl (by kernel_rfl) (by decide)) ?_
                refine uA 2 rfl trivial ?_
                refine uE rfl rfl (wA (off := 5) (i := 0) cGExpand_token (y' := (GExpand_token.mk (GTok.mk y_4.tok.kind y_4.tok.text y_4.tok.file_ y_4.tok.from_ y_4.tok.to true) y_4.hide y_4.mark y_4.op)) (v := (bA true)) hy_4 hH rfl rfl rfl rfl rfl rfl rfl rfl rfl fun H' hH => ?_)
                refine uN 13 (own_set cGExpand_token (l_2.drop ((r_3.1.2.1 + (1 : Int))).toNat) ((0 : Int)).toNat (GExpand_token.mk (GTok.mk y_4.tok.kind y_4.tok.text y_4.tok.file_ y_4.tok.from_ y_4.tok.to true) y_4.hide y_4.mark y_4.op) _) ?_
                refine uN 107 (own_set cGExpand_token (l_2.drop ((r_3.1.2.1 + (1 : Int))).toNat) ((0 : Int)).toNat (GExpand_token.mk (GTok.mk y_4.tok.kind y_4.tok.text y_4.tok.file_ y_4.tok.from_ y_4.tok.to true) y_4.hide y_4.mark y_4.op) _) ?_
                refine uN 108 (own_set cGExpand_token (l_2.drop ((r_3.1.2.1 + (1 : Int))).toNat) ((0 : Int)).toNat (GExpand_token.mk (GTok.mk y_4.tok.kind y_4.tok.text y_4.tok.file_ y_4.tok.from_ y_4.tok.to true) y_4.hide y_4.mark y_4.op) _) ?_
                refine WpOps.nil ?_
                obtain ⟨_, hle_4, hH⟩ := hH.lose_ (i := 2) rfl
                have hH := hH.front (i := 4) rfl
                have hH := hH.front (i := 4) rfl
                have hH := hH.front (i := 4) rfl
                have hH := hH.front (i := 4) rfl
                obtain ⟨_, ho_2, _, hH, _⟩ := hH.at_ (i := 4) rfl
                exact ⟨_, hle_4, 13, _, _, Own.up ho_2, ((((l_2.drop ((r_3.1.2.1 + (1 : Int))).toNat).set ((0 : Int)).toNat (GExpand_token.mk (GTok.mk y_4.tok.kind y_4.tok.text y_4.tok.file_ y_4.tok.from_ y_4.tok.to true) y_4.hide y_4.mark y_4.op)), r_3.1.1), p_3), ⟨rfl, rfl, rfl, rfl, trivial⟩, h, hH⟩
              ·
                replace h := Sh.ite_neg hb h
                refine uI ?_
                obtain ⟨_, hle_5, hH⟩ := hH.lose_ (i := 1) rfl
                exact ⟨_, hle_5, (((l_2.drop ((r_3.1.2.1 + (1 : Int))).toNat), r_3.1.1), p_3), ⟨rfl, rfl, rfl, rfl, trivial⟩, h, hH⟩
          ·
            rintro ⟨⟨rest_1, x_1⟩, p_5⟩ env H' ⟨h, hH⟩
            try dsimp only at h
            refine vJ (t := 10) (i := 0) hH rfl rfl (fun H' hH => ?_)
            refine WpC.closedUp ?_
            refine uJ ?_
            refine uA 2 rfl trivial ?_
            refine uB (v := (AV.rows 1 (List.map (cL 9 cGExpand_token) ([x_1, rest_1] : List (List GExpand_token))))) rfl rfl (uW rfl (by kernel_rfl)) ?_
            obtain ⟨r_4, hr_4, h⟩ := Sh.bind_some h
            refine uE rfl rfl (vI 0 (V := fun b : (Option (Nat × Nat)) => (.own (List.map cGExpand_token r_4).length b)) (A := fun b : (Option (Nat × Nat)) => [.own 255 9 b (List.map cGExpand_token r_4)]) rfl rfl rfl hH (fun H1 hl hh => w_slices_Concat_Lexpand_token_expand_token hr_4 hh) fun p_6 H' hH => ?_)
            have hH : Holds H0 [.own 255 9 p_6 (List.map cGExpand_token r_4), .own 255 9 p_1 (List.map cGExpand_token out_1), .cell g_1 224 [.lit (.map (some gm_1)), (iA r_3.2.steps)], .many (mapP gm_1 r_3.2.ms)] _ := hH
            refine uA 1 rfl trivial ?_
            refine WpOps.nil ?_
            have hH := hH.front (i := 3) rfl
            have hH := hH.front (i := 3) rfl
            have hH := hH.front (i := 3) rfl
            obtain ⟨_, ho_3, _, hH, _⟩ := hH.at_ (i := 3) rfl
            obtain rfl := Sh.some_inj h
            exact ⟨_, (uD _), 1, _, _, Own.up ho_3, (r_4, out_1, r_3.2), p_1, rfl, ⟨rfl, rfl, rfl, trivial⟩, hH⟩
    ·
      replace h := Sh.ite_neg hb h
      obtain rfl := Sh.some_inj h
      have e := hd_1 _ rfl
      subst e
      refine WpC.exit ?_
      exact ⟨((out_1, w_2), p_1), ⟨rfl, trivial⟩, hk_1, hH⟩
  ·
    rintro ⟨⟨out_2, w_5⟩, p_7⟩ env H' ⟨h, hH⟩
    try dsimp only at h
    refine uC ?_
    refine uA 3 rfl trivial ?_
    refine WpOps.nil ?_
    refine vJ (t := 4) (i := 0) hH rfl rfl (fun H' hH => ?_)
    have hH : Holds H0 [.cell g_1 224 [.lit (.map (some gm_1)), (iA w_5.steps)], .many (mapP gm_1 w_5.ms)] _ := hH
    obtain rfl := Sh.some_inj h
    refine WpC.ret ?_
    exact uU rfl rfl rfl ⟨(), rfl, hH⟩
theorem w_expand_bare {H0 : Heap} {l_1 : List GTok} {r : List GExpand_token} (h : expand_bare l_1 = some r) : TCall Tryz.prog 132 [(AV.rows 6 (List.map cGTok l_1))] H0 (fun v H' => v = (AV.rows 9 (List.map cGExpand_token r)) ∧ H' = H0) noE := by
 refine id (TCall.body Tryz.func132 rfl rfl ?_)
 have hH : Holds H0 [] H0 := rfl
 refine uC ?_
 refine uA 1 rfl trivial ?_
 refine WpOps.nil ?_
 refine uC ?_
 refine uA 1 rfl trivial ?_
 have hH := hH.nil 255 9
 refine WpOps.nil ?_
 refine uC ?_
 refine uA 1 rfl trivial ?_
 refine WpOps.nil ?_
 refine WpC.seq ?_
 refine uC ?_
 refine uA 2 rfl trivial ?_
 refine uN 8 (len_map _ _) ?_
 refine uA 1 rfl trivial ?_
 refine WpOps.nil ?_
 refine vA (fun x : (List GExpand_token) × ((Option (Nat × Nat))) => [(3, (.own (List.map cGExpand_token x.1).length x.2))]) (fun x H' => expand_bare_j1 x.1 = some r ∧ Holds H0 [.own 255 9 x.2 (List.map cGExpand_token x.1)] H') ?_ ?_
 ·
  obtain ⟨o_1, ho_1, hk_1⟩ := Sh.bind_some h
  refine uX (expand_bare_b2 l_1) (fun (s : Bool × Int × List GExpand_token) (a : (Option (Nat × Nat))) => [(3, (.own (List.map cGExpand_token s.2.2).length a)), (4, (bA s.1)), (7, (AV.rows 6 (List.map cGTok l_1))), (8, (iA (l_1.length : Int))), (9, (iA s.2.1))]) (fun (s : Bool × Int × List GExpand_token) (a : (Option (Nat × Nat))) H' => Holds H0 [.own 255 9 a (List.map cGExpand_token s.2.2)] H') o_1 (false, (0 : Int), ([] : List GExpand_token)) none ho_1 ⟨rfl, rfl, rfl, rfl, rfl, trivial⟩ hH ?_
  rintro ⟨blank_1, t9_1, out_1⟩ p_1 st_1 env H' h hd_1 hH
  refine uC ?_
  refine uA 1 rfl trivial ?_
  refine WpOps.nil ?_
  refine WpC.seq ?_
  refine uF rfl (fun hb => ?_) (fun hb => ?_)
  ·
   replace h := Sh.ite_pos hb h
   refine uI ?_
   refine ⟨_, uD _, ?_⟩
   refine WpC.seq ?_
   refine WpC.block ?_
   refine uC ?_
   obtain ⟨y_1, hy_1, h⟩ := Sh.bind_some h
   refine uB (v := (.rop (cGTok y_1))) rfl rfl (uR cGTok hy_1 rfl rfl rfl rfl (by kernel_rfl) (by decide)) ?_
   refine uB (v := (AV.agg (cGTok y_1))) rfl rfl (uG rfl rfl rfl) ?_
   refine uE rfl rfl (vC (z := cGTok (GTok.mk (0 : Int) ([] : List UInt8) (0 : Int) (0 : Int) (0 : Int) false)) rfl rfl hH fun g_1 H' hH => ?_)
   refine uE rfl rfl (uQ (cs' := (cGTok y_1)) (v := (AV.agg (cGTok y_1))) rfl rfl hH (i := 0) rfl rfl rfl rfl rfl rfl rfl fun H' hH => ?_)
   refine WpOps.nil ?_
   refine WpC.seq ?_
   refine uC ?_
   refine uA 1 rfl trivial ?_
   refine uB (v := (iA y_1.kind)) rfl rfl (Exact.load rfl rfl (hH.cell (i := 0) rfl) rfl rfl) ?_
   refine uA 1 rfl trivial ?_
   refine WpOps.nil ?_
   refine uF rfl (fun hb => ?_) (fun hb => ?_)
   ·
    replace h := Sh.ite_pos hb h
    refine uC ?_
    refine uA 1 rfl trivial ?_
    refine WpOps.nil ?_
    refine WpC.exitD ?_
    refine ⟨_, uD _, ?_⟩
    refine uJ ?_
    obtain ⟨c_1, h⟩ := Sh.chk_some h
    refine uA 2 rfl c_1 ?_
    refine WpOps.nil ?_
    obtain ⟨_, hle_1, hH⟩ := hH.lose_ (i := 0) rfl
    obtain rfl := Sh.some_inj h
    exact ⟨_, hle_1, (true, (t9_1 + (1 : Int)), out_1), p_1, rfl, ⟨rfl, rfl, rfl, rfl, rfl, trivial⟩, hH⟩
   ·
    replace h := Sh.ite_neg hb h
    refine uI ?_
    refine ⟨_, uD _, ?_⟩
    refine uC ?_
    refine uA 1 rfl trivial ?_
    refine uB (v := (bA y_1.blank)) rfl rfl (Exact.load rfl rfl (hH.cell (i := 0) rfl) rfl rfl) ?_
    obtain ⟨b_1, g_2, h⟩ := Sh.bind_some h
    refine uM 3 20 (bA b_1) rfl ?_ ?_
    ·
     refine uA 1 rfl trivial ?_
     refine uL 18 rfl (fun hb => ?_) (fun hb => ?_)
     ·
      replace g_2 := Sh.ite_pos hb g_2
      refine uA 2 rfl trivial ?_
      refine WpOps.nil ?_
      obtain rfl := Sh.some_inj g_2
      exact ⟨rfl, rfl⟩
     ·
      replace g_2 := Sh.ite_neg hb g_2
      refine uA 2 rfl trivial ?_
      refine WpOps.nil ?_
      obtain rfl := Sh.some_inj g_2
      exact ⟨rfl, rfl⟩
    intro env
    refine uA 1 rfl trivial ?_
    refine uE rfl rfl (uQ (cs' := (cGTok (GTok.mk y_1.kind y_1.text y_1.file_ y_1.from_ y_1.to b_1))) (v := (bA b_1)) rfl rfl hH (i := 0) rfl rfl rfl rfl rfl rfl rfl fun H' hH => ?_)
    refine WpOps.nil ?_
    refine uC ?_
    refine uA 1 rfl trivial ?_
    refine WpOps.nil ?_
    refine uJ ?_
    refine uA 1 rfl trivial ?_
    refine uB (v := (AV.agg (cGTok (GTok.mk y_1.kind y_1.text y_1.file_ y_1.from_ y_1.to b_1)))) rfl rfl (Exact.load rfl rfl (hH.cell (i := 0) rfl) rfl rfl) ?_
    refine uB (v := (AV.agg (cGExpand_token (GExpand_token.mk (GTok.mk y_1.kind y_1.text y_1.file_ y_1.from_ y_1.to b_1) ([] : List (List UInt8)) false false)))) rfl rfl (wG rfl (Sub.agg (.cons (.refl _) (.cons (.refl _) (.cons (.refl _) (.cons (.refl _) (.cons (.refl _) (.cons (.refl _) (.cons (Sub.nil _) (.cons (.refl _) (.cons (.refl _) .nil)))))))))) trivial) ?_
    refine uB (v := (AV.rows 9 (List.map cGExpand_token ([(GExpand_token.mk (GTok.mk y_1.kind y_1.text y_1.file_ y_1.from_ y_1.to b_1) ([] : List (List UInt8)) false false)] : List GExpand_token)))) rfl rfl (uW rfl (by kernel_rfl)) ?_
    obtain ⟨c_2, h⟩ := Sh.chk_some h
    refine uE rfl rfl (vL cGExpand_token out_1 ([(GExpand_token.mk (GTok.mk y_1.kind y_1.text y_1.file_ y_1.from_ y_1.to b_1) ([] : List (List UInt8)) false false)] : List GExpand_token) (i := 1) rfl ek228 hH rfl rfl rfl (.rows _) (fun y _ => one_cGExpand_token y) (by simp) c_2 (by decide) fun p_2 H' hH => ?_)
    refine uA 1 rfl trivial ?_
    refine WpOps.nil ?_
    refine ⟨_, uD _, ?_⟩
    refine uJ ?_
    obtain ⟨c_3, h⟩ := Sh.chk_some h
    refine uA 2 rfl c_3 ?_
    refine WpOps.nil ?_
    obtain ⟨_, hle_2, hH⟩ := hH.lose_ (i := 0) rfl
    obtain rfl := Sh.some_inj h
    exact ⟨_, hle_2, (false, (t9_1 + (1 : Int)), (out_1 ++ ([(GExpand_token.mk (GTok.mk y_1.kind y_1.text y_1.file_ y_1.from_ y_1.to b_1) ([] : List (List UInt8)) false false)] : List GExpand_token))), p_2, rfl, ⟨rfl, rfl, rfl, rfl, rfl, trivial⟩, hH⟩
  ·
   replace h := Sh.ite_neg hb h
   obtain rfl := Sh.some_inj h
   have e := hd_1 _ rfl
   subst e
   refine WpC.exit ?_
   exact ⟨(out_1, p_1), ⟨rfl, trivial⟩, hk_1, hH⟩
 ·
  rintro ⟨out_2, p_3⟩ env H' ⟨h, hH⟩
  try dsimp only at h
  refine ⟨_, uD _, ?_⟩
  refine uC ?_
  refine uA 2 rfl trivial ?_
  refine WpOps.nil ?_
  refine vJ (t := 2) (i := 0) hH rfl rfl (fun H' hH => ?_)
  obtain rfl := Sh.some_inj h
  refine WpC.ret ?_
  exact uH rfl rfl ⟨rfl, hH⟩
theorem w_expand_Expand {H0 H : Heap} (hG : Glob H0)  {ms_1 : List GMacro} {l_1 : List GTok} {r : List GTok × Int} (h : expand_Expand ms_1 l_1 = some r) (hH : Holds H0 [] H) : TCall Tryz.prog 117 [(AV.rows 5 (List.map cGMacro ms_1)), (AV.rows 6 (List.map cGTok l_1))] H (fun v H' => ∃ b : (Option (Nat × Nat)), v = (.tup [.own (List.map cGTok r.1).length b, (iA r.2)]) ∧ Holds H0 [.own 50 6 b (List.map cGTok r.1)] H') noE := by
  refine id (TCall.body Tryz.func117 rfl rfl ?_)
  refine uC ?_
  refine uA 2 rfl trivial ?_
  refine WpOps.nil ?_
  refine uC ?_
  refine uE rfl rfl (WpO.mkM rfl hH fun g_1 H' hH => ?_)
  refine uA 1 rfl trivial ?_
  refine uE rfl rfl (vF (v := .agg [.lit (.map (some g_1)), (iA (0 : Int))]) rfl rfl hH fun g_2 H' hH => ?_)
  refine uE rfl rfl (vC rfl rfl hH fun g_3 H' hH => ?_)
  refine uE rfl rfl (uQ (cs' := [.lit (.pointer (some ⟨g_2, 0, none⟩))]) rfl rfl hH (i := 0) rfl rfl rfl rfl rfl rfl rfl fun H' hH => ?_)
  refine WpOps.nil ?_
  refine WpC.seq ?_
  refine uC ?_
  obtain ⟨it_1, hit_1, h⟩ := Sh.bind_some h
  refine uA 1 rfl trivial ?_
  refine uE rfl rfl (WpO.callN rfl rfl rfl hH (fun HH => w_backM HH) fun g_4 H' hH => ?_)
  refine WpOps.nil ?_
  refine WpC.block ?_
  obtain ⟨o_1, ho_1, hk_1⟩ := Sh.bind_some h
  refine WpC.rangeS expand_Expand_b1 it_1 eBM (fun (s : GExpand_work) (a : Unit) => [.cell g_4 60 ((cL 5 cGMacro) ms_1), .cell g_3 222 [.lit (.pointer (some ⟨g_2, 0, none⟩))], .cell g_2 224 [.lit (.map (some g_1)), (iA s.steps)], .many (mapP g_1 s.ms)]) o_1 (GExpand_work.mk ([] : List (List UInt8 × GMacro)) (0 : Int)) () ho_1 rfl rfl (by decide) (by obtain ⟨hl, e⟩ := backM_some hit_1; rw [e, backM_map]; exact w_backM_c1 hl (Heap.one_at _ _)) (fun _ => rfl) (fun s a H hH => Heap.one_le (hH.cell (i := 0) rfl)) hH ?_ ?_
  ·
    rintro x_1 l_2 _ st_1 H' h hd_1 hH
    refine uJ ?_
    refine uE rfl rfl (vK (z' := cGMacro (GMacro.mk ([] : List UInt8) false ([] : List (List UInt8)) false ([] : List GTok))) rfl rfl (.cons (.refl _) (.cons (.refl _) (.cons (Sub.nil _) (.cons (.refl _) (.cons (Sub.nil _) .nil))))) hH fun g_5 H' hH => ?_)
    refine uE rfl rfl (uQ (cs' := (cGMacro x_1.2)) (v := (AV.agg (cGMacro x_1.2))) rfl rfl hH (i := 0) rfl rfl rfl rfl rfl rfl rfl fun H' hH => ?_)
    refine WpOps.nil ?_
    refine ⟨_, uD _, ?_⟩
    refine WpC.block ?_
    refine wB [.S, .I, .I, .S, .I, .S, .S, .E] [0, 1, 2, 3, 4, 5, 6, 7] (by kernel_rfl) (by kernel_rfl) ?_
    refine uT (v := (.lit (.pointer (some ⟨g_2, 0, none⟩)))) rfl rfl rfl rfl (Exact.load rfl rfl (hH.cell (i := 2) rfl) rfl rfl) ?_
    refine uK 2 rfl trivial ?_
    refine uT (v := (.lit (.map (some g_1)))) rfl rfl rfl rfl (Exact.load rfl rfl (hH.cell (i := 3) rfl) rfl rfl) ?_
    refine uK 1 rfl trivial ?_
    refine uT (v := (sA x_1.2.name)) rfl rfl rfl rfl (Exact.load rfl rfl (hH.cell (i := 0) rfl) rfl rfl) ?_
    refine uT (v := (AV.agg (cGMacro x_1.2))) rfl rfl rfl rfl (Exact.load rfl rfl (hH.cell (i := 0) rfl) rfl rfl) ?_
    refine vM rfl rfl rfl rfl (WpO.updM rfl (by kernel_rfl) rfl hH (i := 4) rfl rfl rfl fun H' hH => ?_)
    have hH : Holds H0 [.cell g_5 69 (cGMacro x_1.2), .cell g_4 60 ((cL 5 cGMacro) ms_1), .cell g_3 222 [.lit (.pointer (some ⟨g_2, 0, none⟩))], .cell g_2 224 [.lit (.map (some g_1)), (iA l_2.steps)], .many (mapP g_1 (putM x_1.2.name x_1.2 l_2.ms))] _ := hH
    refine WpPi.nil ?_
    obtain ⟨_, hle_1, hH⟩ := hH.lose_ (i := 0) rfl
    obtain rfl := Sh.some_inj h
    exact ⟨_, hle_1, (GExpand_work.mk (putM x_1.2.name x_1.2 l_2.ms) l_2.steps), (), rfl, hH⟩
  ·
    rintro l_3 _ H' rfl hH
    have h := hk_1
    refine vO [.S, .I, .I, .E] [0, 1, 2, 3, 4, 5, 6, 7, 8] (by kernel_rfl) (by kernel_rfl) ?_
    refine uT (v := (.lit (.pointer (some ⟨g_2, 0, none⟩)))) rfl rfl rfl rfl (Exact.load rfl rfl (hH.cell (i := 1) rfl) rfl rfl) ?_
    obtain ⟨r_1, hr_1, h⟩ := Sh.bind_some h
    refine uK 1 rfl trivial ?_
    refine uV (v := (AV.rows 9 (List.map cGExpand_token r_1))) rfl rfl rfl rfl (fun _ => Exact.call rfl rfl rfl (w_expand_bare hr_1)) ?_
    obtain ⟨r_2, hr_2, h⟩ := Sh.bind_some h
    have hH := hH.front (i := 3) rfl
    have hH := hH.front (i := 3) rfl
    refine vM rfl rfl rfl rfl (vI 2 (V := fun b : Unit => (.tup [(AV.rows 9 (List.map cGExpand_token r_2.1.1)), (iA r_2.1.2)])) (A := fun b : Unit => [.cell g_2 224 [.lit (.map (some g_1)), (iA r_2.2.steps)], .many (mapP g_1 r_2.2.ms)]) rfl rfl rfl hH (fun H1 hl hh => w_expand_work_expand (hG.le hl) hr_2 hh) fun _ H' hH => ?_)
    have hH : Holds H0 [.cell g_2 224 [.lit (.map (some g_1)), (iA r_2.2.steps)], .many (mapP g_1 r_2.2.ms), .cell g_4 60 ((cL 5 cGMacro) ms_1), .cell g_3 222 [.lit (.pointer (some ⟨g_2, 0, none⟩))]] _ := hH
    have hH := hH.back 3
    have hH := hH.back 3
    have hH : Holds H0 [.cell g_4 60 ((cL 5 cGMacro) ms_1), .cell g_3 222 [.lit (.pointer (some ⟨g_2, 0, none⟩))], .cell g_2 224 [.lit (.map (some g_1)), (iA r_2.2.steps)], .many (mapP g_1 r_2.2.ms)] _ := hH
    refine uK 5 rfl trivial ?_
    refine WpPi.nil ?_
    refine uC ?_
    obtain ⟨r_3, hr_3, h⟩ := Sh.bind_some h
    refine uA 1 rfl trivial ?_
    refine uE rfl rfl (vI 0 (V := fun b : (Option (Nat × Nat)) => (.own (List.map cGTok r_3).length b)) (A := fun b : (Option (Nat × Nat)) => [.own 50 6 b (List.map cGTok r_3)]) rfl rfl rfl hH (fun H1 hl hh => w_expand_plain hr_3 hh) fun p_1 H' hH => ?_)
    have hH : Holds H0 [.own 50 6 p_1 (List.map cGTok r_3), .cell g_4 60 ((cL 5 cGMacro) ms_1), .cell g_3 222 [.lit (.pointer (some ⟨g_2, 0, none⟩))], .cell g_2 224 [.lit (.map (some g_1)), (iA r_2.2.steps)], .many (mapP g_1 r_2.2.ms)] _ := hH
    refine uA 3 rfl trivial ?_
    refine WpOps.nil ?_
    refine uP (i := 1) hH rfl (fun H' hH => ?_)
    refine uP (i := 1) hH rfl (fun H' hH => ?_)
    refine uP (i := 1) hH rfl (fun H' hH => ?_)
    refine uP (i := 1) hH rfl (fun H' hH => ?_)
    have hH : Holds H0 [.own 50 6 p_1 (List.map cGTok r_3)] _ := hH
    obtain rfl := Sh.some_inj h
    refine WpC.ret ?_
    exact uU rfl rfl rfl ⟨p_1, rfl, hH⟩
theorem w_unit_file_holds {H0 H : Heap} (hG : Glob H0) {g_1 : Nat} {gm_1 : Nat} {p_1 : Option (Nat × Nat)} {f_1 : GUnit_file} {run_1 : GUnit_run} {l_1 : GLine} {r : Bool × Int} (h : unit_file_holds f_1 run_1 l_1 = some r) (hH : Holds H0 [.cell g_1 67 [(AV.rows 2 (List.map cGFile run_1.files)), .lit (.map (some gm_1)), .own (List.map cGTok run_1.told).length p_1, (iA run_1.includes)], .own 50 6 p_1 (List.map cGTok run_1.told), .many (mapP gm_1 run_1.macros)] H) : TCall Tryz.prog 112 [(.rop (cGUnit_file g_1 f_1)), (AV.agg (cGLine l_1))] H (fun v H' => ∃ b : (Option (Nat × Nat)), v = (.tup [(bA r.1), (iA r.2)]) ∧ Holds H0 [.cell g_1 67 [(AV.rows 2 (List.map cGFile run_1.files)), .lit (.map (some gm_1)), .own (List.map cGTok run_1.told).length b, (iA run_1.includes)], .own 50 6 b (List.map cGTok run_1.told), .many (mapP gm_1 run_1.macros)] H') noE := by
 refine id (TCall.body Tryz.func112 rfl rfl ?_)
 refine uC ?_
 refine uE rfl rfl (vF (v := (AV.agg (cGLine l_1))) rfl rfl hH fun g_2 H' hH => ?_)
 refine uA 2 rfl trivial ?_
 refine WpOps.nil ?_
 refine vG (fun x : (Unit) × (Unit) => [(0, (.rop (cGUnit_file g_1 f_1))), (3, (.lit (.pointer (some ⟨g_2, 0, none⟩))))]) (fun x H' => (unit_file_holds_j1 run_1 l_1) x.1 = some r ∧ Holds H0 [.cell g_2 57 (cGLine l_1), .cell g_1 67 [(AV.rows 2 (List.map cGFile run_1.files)), .lit (.map (some gm_1)), .own (List.map cGTok run_1.told).length p_1, (iA run_1.includes)], .own 50 6 p_1 (List.map cGTok run_1.told), .many (mapP gm_1 run_1.macros)] H') ?_ ?_
 ·
  refine uC ?_
  refine uA 1 rfl trivial ?_
  refine uB (v := (iA l_1.kind)) rfl rfl (Exact.load rfl rfl (hH.cell (i := 0) rfl) rfl rfl) ?_
  refine WpOps.nil ?_
  refine WpC.block ?_
  refine uC ?_
  refine uA 2 rfl trivial ?_
  refine WpOps.nil ?_
  refine uF rfl (fun hb => ?_) (fun hb => ?_)
  ·
   replace h := Sh.ite_pos hb h
   refine uC ?_
   refine uA 2 rfl trivial ?_
   refine WpOps.nil ?_
   refine uP (i := 0) hH rfl (fun H' hH => ?_)
   have hH : Holds H0 [.cell g_1 67 [(AV.rows 2 (List.map cGFile run_1.files)), .lit (.map (some gm_1)), .own (List.map cGTok run_1.told).length p_1, (iA run_1.includes)], .own 50 6 p_1 (List.map cGTok run_1.told), .many (mapP gm_1 run_1.macros)] _ := hH
   obtain rfl := Sh.some_inj h
   refine WpC.ret ?_
   exact uU rfl rfl rfl ⟨p_1, rfl, hH⟩
  ·
   replace h := Sh.ite_neg hb h
   refine vG (fun x : (Bool) × (Unit) => [(0, (.rop (cGUnit_file g_1 f_1))), (3, (.lit (.pointer (some ⟨g_2, 0, none⟩)))), (19, (bA x.1))]) (fun x H' => (unit_file_holds_j2 run_1 l_1) x.1 = some r ∧ Holds H0 [.cell g_2 57 (cGLine l_1), .cell g_1 67 [(AV.rows 2 (List.map cGFile run_1.files)), .lit (.map (some gm_1)), .own (List.map cGTok run_1.told).length p_1, (iA run_1.includes)], .own 50 6 p_1 (List.map cGTok run_1.told), .many (mapP gm_1 run_1.macros)] H') ?_ ?_
   ·
    refine uC ?_
    refine uA 2 rfl trivial ?_
    refine WpOps.nil ?_
    refine uF rfl (fun hb => ?_) (fun hb => ?_)
    ·
     replace h := Sh.ite_pos hb h
     refine uI ?_
     exact ⟨_, (uD _), ((decide (l_1.kind = (3 : Int))), ()), ⟨rfl, rfl, rfl, trivial⟩, h, hH⟩
    ·
     replace h := Sh.ite_neg hb h
     refine uJ ?_
     refine uA 2 rfl trivial ?_
     refine WpOps.nil ?_
     exact ⟨_, (uD _), ((decide (l_1.kind = (4 : Int))), ()), ⟨rfl, rfl, rfl, trivial⟩, h, hH⟩
   ·
    rintro ⟨t19_1, _⟩ env H' ⟨h, hH⟩
    try dsimp only at h
    refine uF rfl (fun hb => ?_) (fun hb => ?_)
    ·
     replace h := Sh.ite_pos hb h
     refine uC ?_
     refine uA 1 rfl trivial ?_
     refine uB (v := (AV.rows 6 (List.map cGTok l_1.toks))) rfl rfl (Exact.load rfl rfl (hH.cell (i := 0) rfl) rfl rfl) ?_
     obtain ⟨r_1, hr_1, h⟩ := Sh.bind_some h
     refine uB (v := (.tup [(sA r_1.1), (bA r_1.2)])) rfl rfl (Exact.call rfl rfl rfl (w_unit_alone hr_1)) ?_
     refine uA 5 rfl trivial ?_
     refine WpOps.nil ?_
     refine WpC.seq ?_
     refine uC ?_
     refine uA 2 rfl trivial ?_
     refine WpOps.nil ?_
     refine uF rfl (fun hb => ?_) (fun hb => ?_)
     ·
      replace h := Sh.ite_pos hb h
      refine uC ?_
      refine uA 2 rfl trivial ?_
      refine WpOps.nil ?_
      refine uP (i := 0) hH rfl (fun H' hH => ?_)
      have hH : Holds H0 [.cell g_1 67 [(AV.rows 2 (List.map cGFile run_1.files)), .lit (.map (some gm_1)), .own (List.map cGTok run_1.told).length p_1, (iA run_1.includes)], .own 50 6 p_1 (List.map cGTok run_1.told), .many (mapP gm_1 run_1.macros)] _ := hH
      obtain rfl := Sh.some_inj h
      refine WpC.ret ?_
      exact uU rfl rfl rfl ⟨p_1, rfl, hH⟩
     ·
      replace h := Sh.ite_neg hb h
      refine uI ?_
      refine ⟨_, uD _, ?_⟩
      refine uC ?_
      refine uA 3 rfl trivial ?_
      refine uB (v := (.lit (.pointer (some ⟨g_1, 0, none⟩)))) rfl rfl (uG rfl rfl rfl) ?_
      refine uA 2 rfl trivial ?_
      refine uB (v := (.lit (.map (some gm_1)))) rfl rfl (Exact.load rfl rfl (hH.cell (i := 1) rfl) rfl rfl) ?_
      refine uA 1 rfl trivial ?_
      refine uB (v := (.tup [(AV.agg (cGMacro ((getM r_1.1 run_1.macros).getD (GMacro.mk ([] : List UInt8) false ([] : List (List UInt8)) false ([] : List GTok))))), (bA (getM r_1.1 run_1.macros).isSome)])) rfl rfl (Exact.lookM rfl (by kernel_rfl) rfl (hH.mapAt (i := 3) rfl) rfl) ?_
      refine uA 3 rfl trivial ?_
      refine uE rfl rfl (vK (z' := cGMacro (GMacro.mk ([] : List UInt8) false ([] : List (List UInt8)) false ([] : List GTok))) rfl rfl (.cons (.refl _) (.cons (.refl _) (.cons (Sub.nil _) (.cons (.refl _) (.cons (Sub.nil _) .nil))))) hH fun g_3 H' hH => ?_)
      refine uE rfl rfl (uQ (cs' := (cGMacro ((getM r_1.1 run_1.macros).getD (GMacro.mk ([] : List UInt8) false ([] : List (List UInt8)) false ([] : List GTok))))) (v := (AV.agg (cGMacro ((getM r_1.1 run_1.macros).getD (GMacro.mk ([] : List UInt8) false ([] : List (List UInt8)) false ([] : List GTok)))))) rfl rfl hH (i := 0) rfl rfl rfl rfl rfl rfl rfl fun H' hH => ?_)
      refine uA 1 rfl trivial ?_
      refine WpOps.nil ?_
      refine uC ?_
      refine uA 2 rfl trivial ?_
      refine uB (v := (iA l_1.kind)) rfl rfl (Exact.load rfl rfl (hH.cell (i := 1) rfl) rfl rfl) ?_
      refine uA 4 rfl trivial ?_
      refine WpOps.nil ?_
      refine uP (i := 0) hH rfl (fun H' hH => ?_)
      refine uP (i := 0) hH rfl (fun H' hH => ?_)
      have hH : Holds H0 [.cell g_1 67 [(AV.rows 2 (List.map cGFile run_1.files)), .lit (.map (some gm_1)), .own (List.map cGTok run_1.told).length p_1, (iA run_1.includes)], .own 50 6 p_1 (List.map cGTok run_1.told), .many (mapP gm_1 run_1.macros)] _ := hH
      obtain rfl := Sh.some_inj h
      refine WpC.ret ?_
      exact uU rfl rfl rfl ⟨p_1, rfl, hH⟩
    ·
     replace h := Sh.ite_neg hb h
     refine uI ?_
     exact ⟨_, (uD _), ((), ()), ⟨rfl, rfl, trivial⟩, h, hH⟩
 ·
  rintro ⟨_, _⟩ env H' ⟨h, hH⟩
  try dsimp only at h
  refine uC ?_
  refine uA 3 rfl trivial ?_
  refine uB (v := (.lit (.pointer (some ⟨g_1, 0, none⟩)))) rfl rfl (uG rfl rfl rfl) ?_
  obtain ⟨r_2, hr_2, h⟩ := Sh.bind_some h
  have hH := hH.front (i := 3) rfl
  have hH := hH.front (i := 3) rfl
  have hH := hH.front (i := 3) rfl
  refine uE rfl rfl (vI 3 (V := fun b : (Option (Nat × Nat)) => (.tup [(AV.rows 1 (List.map cS r_2.1)), (AV.rows 5 (List.map cGMacro r_2.2))])) (A := fun b : (Option (Nat × Nat)) => [.cell g_1 67 [(AV.rows 2 (List.map cGFile run_1.files)), .lit (.map (some gm_1)), .own (List.map cGTok run_1.told).length b, (iA run_1.includes)], .own 50 6 b (List.map cGTok run_1.told), .many (mapP gm_1 run_1.macros)]) rfl rfl rfl hH (fun H1 hl hh => w_unit_run_names hh hr_2) fun p_2 H' hH => ?_)
  have hH : Holds H0 [.cell g_1 67 [(AV.rows 2 (List.map cGFile run_1.files)), .lit (.map (some gm_1)), .own (List.map cGTok run_1.told).length p_2, (iA run_1.includes)], .own 50 6 p_2 (List.map cGTok run_1.told), .many (mapP gm_1 run_1.macros), .cell g_2 57 (cGLine l_1)] _ := hH
  have hH := hH.back 3
  have hH := hH.back 3
  have hH := hH.back 3
  have hH : Holds H0 [.cell g_2 57 (cGLine l_1), .cell g_1 67 [(AV.rows 2 (List.map cGFile run_1.files)), .lit (.map (some gm_1)), .own (List.map cGTok run_1.told).length p_2, (iA run_1.includes)], .own 50 6 p_2 (List.map cGTok run_1.told), .many (mapP gm_1 run_1.macros)] _ := hH
  refine uA 5 rfl trivial ?_
  refine WpOps.nil ?_
  refine uC ?_
  refine uA 1 rfl trivial ?_
  refine uB (v := (AV.rows 6 (List.map cGTok l_1.toks))) rfl rfl (Exact.load rfl rfl (hH.cell (i := 0) rfl) rfl rfl) ?_
  obtain ⟨r_3, hr_3, h⟩ := Sh.bind_some h
  refine uA 1 rfl trivial ?_
  refine uB (v := (.tup [(AV.rows 6 (List.map cGTok r_3.1)), (iA r_3.2)])) rfl rfl (Exact.call rfl rfl rfl (w_ifexpr_Defined hr_3)) ?_
  refine uA 5 rfl trivial ?_
  refine WpOps.nil ?_
  refine WpC.seq ?_
  refine uC ?_
  refine uA 2 rfl trivial ?_
  refine WpOps.nil ?_
  refine uF rfl (fun hb => ?_) (fun hb => ?_)
  ·
   replace h := Sh.ite_pos hb h
   refine uC ?_
   refine uA 3 rfl trivial ?_
   refine WpOps.nil ?_
   refine uP (i := 0) hH rfl (fun H' hH => ?_)
   have hH : Holds H0 [.cell g_1 67 [(AV.rows 2 (List.map cGFile run_1.files)), .lit (.map (some gm_1)), .own (List.map cGTok run_1.told).length p_2, (iA run_1.includes)], .own 50 6 p_2 (List.map cGTok run_1.told), .many (mapP gm_1 run_1.macros)] _ := hH
   obtain rfl := Sh.some_inj h
   refine WpC.ret ?_
   exact uU rfl rfl rfl ⟨p_2, rfl, hH⟩
  ·
   replace h := Sh.ite_neg hb h
   refine uI ?_
   refine ⟨_, uD _, ?_⟩
   refine WpC.seq ?_
   refine uC ?_
   obtain ⟨r_4, hr_4, h⟩ := Sh.bind_some h
   refine uA 2 rfl trivial ?_
   refine uE rfl rfl (vI 0 (V := fun b : (Option (Nat × Nat)) => (.tup [.own (List.map cGTok r_4.1).length b, (iA r_4.2)])) (A := fun b : (Option (Nat × Nat)) => [.own 50 6 b (List.map cGTok r_4.1)]) rfl rfl rfl hH (fun H1 hl hh => w_expand_Expand (hG.le hl) hr_4 hh) fun p_3 H' hH => ?_)
   have hH : Holds H0 [.own 50 6 p_3 (List.map cGTok r_4.1), .cell g_2 57 (cGLine l_1), .cell g_1 67 [(AV.rows 2 (List.map cGFile run_1.files)), .lit (.map (some gm_1)), .own (List.map cGTok run_1.told).length p_2, (iA run_1.includes)], .own 50 6 p_2 (List.map cGTok run_1.told), .many (mapP gm_1 run_1.macros)] _ := hH
   refine uA 5 rfl trivial ?_
   refine WpOps.nil ?_
   refine uC ?_
   refine uA 2 rfl trivial ?_
   refine WpOps.nil ?_
   refine uF rfl (fun hb => ?_) (fun hb => ?_)
   ·
    replace h := Sh.ite_pos hb h
    refine uC ?_
    refine uA 3 rfl trivial ?_
    refine WpOps.nil ?_
    refine uP (i := 0) hH rfl (fun H' hH => ?_)
    refine uP (i := 0) hH rfl (fun H' hH => ?_)
    have hH : Holds H0 [.cell g_1 67 [(AV.rows 2 (List.map cGFile run_1.files)), .lit (.map (some gm_1)), .own (List.map cGTok run_1.told).length p_2, (iA run_1.includes)], .own 50 6 p_2 (List.map cGTok run_1.told), .many (mapP gm_1 run_1.macros)] _ := hH
    obtain rfl := Sh.some_inj h
    refine WpC.ret ?_
    exact uU rfl rfl rfl ⟨p_2, rfl, hH⟩
   ·
    replace h := Sh.ite_neg hb h
    refine uI ?_
    refine ⟨_, uD _, ?_⟩
    refine vJ (t := 12) (i := 0) hH rfl rfl (fun H' hH => ?_)
    refine uC ?_
    obtain ⟨r_5, hr_5, h⟩ := Sh.bind_some h
    refine uA 1 rfl trivial ?_
    refine uB (v := (.tup [(iA r_5.1), (iA r_5.2)])) rfl rfl (Exact.call rfl rfl rfl (w_ifexpr_Eval (hG.up hH) hr_5)) ?_
    refine uA 5 rfl trivial ?_
    refine WpOps.nil ?_
    refine uC ?_
    refine uA 5 rfl trivial ?_
    refine WpOps.nil ?_
    refine uP (i := 0) hH rfl (fun H' hH => ?_)
    have hH : Holds H0 [.cell g_1 67 [(AV.rows 2 (List.map cGFile run_1.files)), .lit (.map (some gm_1)), .own (List.map cGTok run_1.told).length p_2, (iA run_1.includes)], .own 50 6 p_2 (List.map cGTok run_1.told), .many (mapP gm_1 run_1.macros)] _ := hH
    obtain rfl := Sh.some_inj h
    refine WpC.ret ?_
    exact uU rfl rfl rfl ⟨p_2, rfl, hH⟩
abbrev pE (e : Int) : List PanicEntry := [{ v := .iface 241 (.agg #[.int .i64 e]), recovered := false }]
theorem w_macro_need {H0 : Heap} {so : Bool} {e : Int} {r : Sum Int (Unit)} (h : macro_need so e = some r) : TCall Tryz.prog 141 [bA so, iA e] H0 (fun v H' => ∃ x, r = Sum.inr x ∧ v = (.tup []) ∧ H' = H0) (fun ch H' => ∃ e, r = Sum.inl e ∧ ch = pE e ∧ Heap.le H0 H') := by
 refine id (TCall.body Tryz.func141 rfl rfl ?_)
 refine uC ?_
 refine uA 2 rfl trivial ?_
 refine WpOps.nil ?_
 refine uF rfl (fun hb => ?_) (fun hb => ?_)
 ·obtain rfl := Sh.some_inj (Sh.ite_pos hb h)
  refine WpC.region ?_
  refine uA 3 rfl trivial ?_
  refine uE rfl rfl (WpO.panic (t := 241) (v := .int .i64 e) rfl rfl ?_)
  exact VEnds.pan ⟨_, rfl, rfl, uD _⟩
 ·obtain rfl := Sh.some_inj (Sh.ite_neg hb h)
  refine WpC.skip ?_
  exact vW rfl ⟨_, rfl, rfl, rfl⟩
end Go.Proofs.YtgmpeddopfnioaaGreatDoor
