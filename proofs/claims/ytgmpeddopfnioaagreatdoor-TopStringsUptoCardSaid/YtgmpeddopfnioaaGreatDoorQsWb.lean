/-
  Part of the proof of Strings.
-/
import Derived.Test.YtgmpeddopfnioaaGreatDoorQsW

set_option linter.unusedVariables false
set_option linter.unusedSimpArgs false
set_option maxRecDepth 20000
set_option maxHeartbeats 8000000
namespace Go.Proofs.YtgmpeddopfnioaaGreatDoor
open Go Go.Vc Go.Sh
attribute [local irreducible] WpC WpOps WpPi WpPj WpO Exact TCall VEnds Sh.loopS DEnds
theorem w_slices_Clone_Lapi_Tok_api_Tok {H0 : Heap} {l : List GTok} (hc : l.length * 56 ≤ 140737488355328) : TCall Tryz.prog 36 [.rows 6 (List.map cGTok l)] H0 (fun v H' => ∃ p, v = .own (List.map cGTok l).length p ∧ Vc.Own H0 50 6 (List.map cGTok l) (List.map cGTok l).length p H') noE := by
 refine TCall.body Tryz.func36 rfl rfl ?_
 refine WpC.seqR ?_
 refine WpOps.pn 1 rfl trivial ?_
 refine WpOps.nil ?_
 refine WpC.seq ?_
 refine WpC.seqR ?_
 refine WpOps.pn 1 rfl trivial ?_
 refine WpOps.consG rfl rfl (WpO.isNil (size := 6) (es := List.map cGTok l) rfl rfl rfl rfl fun b hb => ?_)
 refine WpOps.nil ?_
 refine WpC.condB rfl (fun hb2 => ?_) (fun hb2 => ?_)
 ·subst hb2
  have e0 : List.map cGTok l = [] := hb rfl
  refine WpC.seqR ?_
  refine WpOps.pn 1 rfl trivial ?_
  refine WpOps.nil ?_
  refine WpC.ret ?_
  exact VEnds.ret1 rfl rfl ⟨none, by rw [e0]; rfl, by rw [e0]; exact Vc.Own.nil rfl⟩
 ·refine WpC.skip ?_
  have hH : Holds H0 [] H0 := rfl
  refine WpC.seqR ?_
  refine WpOps.consG rfl rfl (WpO.litT (size := 6) cGTok ([] : List GTok) rfl rfl (by kernel_rfl) rfl hH fun g H' hH => ?_)
  refine WpOps.pn 1 rfl trivial ?_
  refine WpOps.consG rfl rfl (WpO.pushS cGTok ([] : List GTok) l (i := 0) rfl ek37 hH rfl rfl rfl (.rows _) (fun y _ => one_cGTok y) (by simpa using hc) (by decide) fun g2 c2 H' hH => ?_)
  refine WpOps.pn 1 rfl trivial ?_
  refine WpOps.nil ?_
  refine WpC.ret ?_
  obtain ⟨_, rfl, hO⟩ := hH
  exact VEnds.ret1 rfl rfl ⟨_, rfl, hO⟩
theorem w_unit_alone {H0 : Heap} {l_1 : List GTok} {r : List UInt8 × Bool} (h : unit_alone l_1 = some r) : TCall Tryz.prog 114 [(AV.rows 6 (List.map cGTok l_1))] H0 (fun v H' => v = (.tup [(sA r.1), (bA r.2)]) ∧ H' = H0) noE := by
 refine id (TCall.body Tryz.func114 rfl rfl ?_)
 have hH : Holds H0 [] H0 := rfl
 refine WpC.seqR ?_
 refine WpOps.pn 2 rfl trivial ?_
 refine WpOps.nil ?_
 refine WpC.seq ?_
 refine WpC.seqR ?_
 refine WpOps.pn 2 rfl trivial ?_
 refine WpOps.at 5 (len_map _ _) ?_
 refine WpOps.pn 1 rfl trivial ?_
 obtain ⟨b_1, g_1, h⟩ := Sh.bind_some h
 refine WpOps.cutB 7 13 (bA b_1) rfl ?_ ?_
 ·
  refine WpOps.pn 1 rfl trivial ?_
  refine WpOps.split 7 rfl (fun hb => ?_) (fun hb => ?_)
  ·
   replace g_1 := Sh.ite_pos hb g_1
   refine WpOps.pn 6 rfl trivial ?_
   refine WpOps.nil ?_
   obtain rfl := Sh.some_inj g_1
   exact ⟨rfl, rfl⟩
  ·
   replace g_1 := Sh.ite_neg hb g_1
   obtain ⟨y_1, hy_1, g_1⟩ := Sh.bind_some g_1
   refine WpOps.pn 1 rfl trivial ?_
   refine WpOps.consE (v := (.rop (cGTok y_1))) rfl rfl (Exact.ixr cGTok hy_1 rfl rfl rfl rfl (by kernel_rfl) (by decide)) ?_
   refine WpOps.pn 1 rfl trivial ?_
   refine WpOps.consE (v := (iA y_1.kind)) rfl rfl (Exact.load_rop rfl rfl rfl) ?_
   refine WpOps.pn 2 rfl trivial ?_
   refine WpOps.nil ?_
   obtain rfl := Sh.some_inj g_1
   exact ⟨rfl, rfl⟩
 intro env
 refine WpOps.nil ?_
 refine WpC.condB rfl (fun hb => ?_) (fun hb => ?_)
 ·
  replace h := Sh.ite_pos hb h
  refine WpC.seqR ?_
  refine WpOps.pn 2 rfl trivial ?_
  refine WpOps.nil ?_
  obtain rfl := Sh.some_inj h
  refine WpC.ret ?_
  exact VEnds.ret2 rfl rfl rfl ⟨rfl, hH⟩
 ·
  replace h := Sh.ite_neg hb h
  refine WpC.skipD ?_
  refine ⟨_, Heap.le_refl _, ?_⟩
  refine WpC.seqR ?_
  obtain ⟨y_2, hy_2, h⟩ := Sh.bind_some h
  refine WpOps.pn 1 rfl trivial ?_
  refine WpOps.consE (v := (.rop (cGTok y_2))) rfl rfl (Exact.ixr cGTok hy_2 rfl rfl rfl rfl (by kernel_rfl) (by decide)) ?_
  refine WpOps.pn 1 rfl trivial ?_
  refine WpOps.consE (v := (sA y_2.text)) rfl rfl (Exact.load_rop rfl rfl rfl) ?_
  refine WpOps.pn 2 rfl trivial ?_
  refine WpOps.nil ?_
  obtain rfl := Sh.some_inj h
  refine WpC.ret ?_
  exact VEnds.ret2 rfl rfl rfl ⟨rfl, hH⟩
theorem w_expand_token_hides {H0 : Heap} {t_1 : GExpand_token} {name_1 : List UInt8} {r : Bool} (h : expand_token_hides t_1 name_1 = some r) : TCall Tryz.prog 150 [(AV.agg (cGExpand_token t_1)), (sA name_1)] H0 (fun v H' => v = (bA r) ∧ H' = H0) noE := by
 refine id (TCall.body Tryz.func150 rfl rfl ?_)
 have hH : Holds H0 [] H0 := rfl
 refine WpC.seqR ?_
 refine WpOps.consG rfl rfl (WpO.boxT (v := (AV.agg (cGExpand_token t_1))) rfl rfl hH fun g_1 H' hH => ?_)
 refine WpOps.pn 1 rfl trivial ?_
 refine WpOps.nil ?_
 refine WpC.seqR ?_
 refine WpOps.pn 1 rfl trivial ?_
 refine WpOps.consE (v := (AV.rows 1 (List.map cS t_1.hide))) rfl rfl (Exact.load rfl rfl (hH.cell (i := 0) rfl) rfl rfl) ?_
 obtain ⟨r_1, hr_1, h⟩ := Sh.bind_some h
 refine WpOps.pn 1 rfl trivial ?_
 refine WpOps.consE (v := (bA r_1)) rfl rfl (Exact.call rfl rfl rfl (w_slices_Contains_Lstring_string hr_1)) ?_
 refine WpOps.pn 1 rfl trivial ?_
 refine WpOps.nil ?_
 refine WpC.lose (i := 0) hH rfl (fun H' hH => ?_)
 obtain rfl := Sh.some_inj h
 refine WpC.ret ?_
 exact VEnds.ret1 rfl rfl ⟨rfl, hH⟩
theorem w_expand_token_sign {H0 : Heap} {t_1 : GExpand_token} {s_1 : List UInt8} {r : Bool} (h : expand_token_sign t_1 s_1 = some r) : TCall Tryz.prog 151 [(AV.agg (cGExpand_token t_1)), (sA s_1)] H0 (fun v H' => v = (bA r) ∧ H' = H0) noE := by
 refine id (TCall.body Tryz.func151 rfl rfl ?_)
 have hH : Holds H0 [] H0 := rfl
 refine WpC.seqR ?_
 refine WpOps.consG rfl rfl (WpO.boxT (v := (AV.agg (cGExpand_token t_1))) rfl rfl hH fun g_1 H' hH => ?_)
 refine WpOps.pn 1 rfl trivial ?_
 refine WpOps.nil ?_
 refine WpC.seqR ?_
 refine WpOps.pn 1 rfl trivial ?_
 refine WpOps.consE (v := (bA t_1.mark)) rfl rfl (Exact.load rfl rfl (hH.cell (i := 0) rfl) rfl rfl) ?_
 refine WpOps.pn 1 rfl trivial ?_
 obtain ⟨b_1, g_2, h⟩ := Sh.bind_some h
 refine WpOps.cutB 6 13 (bA b_1) rfl ?_ ?_
 ·
  refine WpOps.pn 1 rfl trivial ?_
  refine WpOps.split 8 rfl (fun hb => ?_) (fun hb => ?_)
  ·
   replace g_2 := Sh.ite_pos hb g_2
   refine WpOps.pn 2 rfl trivial ?_
   refine WpOps.consE (v := (iA t_1.tok.kind)) rfl rfl (Exact.load rfl rfl (hH.cell (i := 0) rfl) rfl rfl) ?_
   refine WpOps.pn 2 rfl trivial ?_
   refine WpOps.nil ?_
   obtain rfl := Sh.some_inj g_2
   exact ⟨rfl, rfl⟩
  ·
   replace g_2 := Sh.ite_neg hb g_2
   refine WpOps.pn 5 rfl trivial ?_
   refine WpOps.nil ?_
   obtain rfl := Sh.some_inj g_2
   exact ⟨rfl, rfl⟩
 intro env
 obtain ⟨b_2, g_3, h⟩ := Sh.bind_some h
 refine WpOps.cutB 7 20 (bA b_2) rfl ?_ ?_
 ·
  refine WpOps.pn 1 rfl trivial ?_
  refine WpOps.split 14 rfl (fun hb => ?_) (fun hb => ?_)
  ·
   replace g_3 := Sh.ite_pos hb g_3
   refine WpOps.pn 2 rfl trivial ?_
   refine WpOps.consE (v := (sA t_1.tok.text)) rfl rfl (Exact.load rfl rfl (hH.cell (i := 0) rfl) rfl rfl) ?_
   refine WpOps.pn 3 rfl trivial ?_
   refine WpOps.nil ?_
   obtain rfl := Sh.some_inj g_3
   exact ⟨rfl, rfl⟩
  ·
   replace g_3 := Sh.ite_neg hb g_3
   refine WpOps.pn 6 rfl trivial ?_
   refine WpOps.nil ?_
   obtain rfl := Sh.some_inj g_3
   exact ⟨rfl, rfl⟩
 intro env
 refine WpOps.pn 1 rfl trivial ?_
 refine WpOps.nil ?_
 refine WpC.lose (i := 0) hH rfl (fun H' hH => ?_)
 obtain rfl := Sh.some_inj h
 refine WpC.ret ?_
 exact VEnds.ret1 rfl rfl ⟨rfl, hH⟩
theorem w_expand_parted {H0 : Heap} {l_1 : List GExpand_token} {r : List (List GExpand_token) × List GExpand_token × Int} (h : expand_parted l_1 = some r) : TCall Tryz.prog 173 [(AV.rows 9 (List.map cGExpand_token l_1))] H0 (fun v H' => v = (.tup [(AV.rows 1 (List.map (cL 9 cGExpand_token) r.1)), (AV.rows 9 (List.map cGExpand_token r.2.1)), (iA r.2.2)]) ∧ H' = H0) noE := by
 refine id (TCall.body Tryz.func173 rfl rfl ?_)
 have hH : Holds H0 [] H0 := rfl
 refine WpC.seqR ?_
 refine WpOps.pn 1 rfl trivial ?_
 have hH := hH.nil 228 1
 refine WpOps.pn 1 rfl trivial ?_
 have hH := hH.nil 255 9
 refine WpOps.pn 1 rfl trivial ?_
 refine WpOps.nil ?_
 refine WpC.seqR ?_
 refine WpOps.pn 1 rfl trivial ?_
 refine WpOps.nil ?_
 refine WpC.seqR ?_
 refine WpOps.pn 1 rfl trivial ?_
 have hH := hH.nil 255 9
 refine WpOps.nil ?_
 refine WpC.seq ?_
 refine WpC.seqR ?_
 refine WpOps.pn 2 rfl trivial ?_
 refine WpOps.at 10 (len_map _ _) ?_
 refine WpOps.pn 1 rfl trivial ?_
 refine WpOps.nil ?_
 refine WpC.blockK (fun x : (Unit) × (Unit) => []) (fun x H' => expand_parted_j1 x.1 = some r ∧ Holds H0 [] H') ?_ ?_
 ·
  obtain ⟨o_1, ho_1, hk_1⟩ := Sh.bind_some h
  refine WpC.loopS (expand_parted_b2 l_1) (fun (s : Int × Int × List GExpand_token × List GExpand_token × List (List GExpand_token)) (a : (Option (Nat × Nat)) × (Option (Nat × Nat)) × (Option (Nat × Nat))) => [(2, (.own (List.map (cL 9 cGExpand_token) s.2.2.2.2).length a.2.2)), (3, (.own (List.map cGExpand_token s.2.2.2.1).length a.2.1)), (5, (iA s.1)), (6, (.own (List.map cGExpand_token s.2.2.1).length a.1)), (9, (AV.rows 9 (List.map cGExpand_token l_1))), (10, (iA (l_1.length : Int))), (11, (iA s.2.1))]) (fun (s : Int × Int × List GExpand_token × List GExpand_token × List (List GExpand_token)) (a : (Option (Nat × Nat)) × (Option (Nat × Nat)) × (Option (Nat × Nat))) H' => Holds H0 [.own 255 9 a.1 (List.map cGExpand_token s.2.2.1), .own 255 9 a.2.1 (List.map cGExpand_token s.2.2.2.1), .own 228 1 a.2.2 (List.map (cL 9 cGExpand_token) s.2.2.2.2)] H') o_1 ((0 : Int), (0 : Int), ([] : List GExpand_token), ([] : List GExpand_token), ([] : List (List GExpand_token))) (none, none, none) ho_1 ⟨rfl, rfl, rfl, rfl, rfl, rfl, rfl, trivial⟩ hH ?_
  rintro ⟨deep_1, t11_1, arg_1, commas_1, args_1⟩ ⟨p_1, p_2, p_3⟩ st_1 env H' h hd_1 hH
  refine WpC.seqR ?_
  refine WpOps.pn 1 rfl trivial ?_
  refine WpOps.nil ?_
  refine WpC.seq ?_
  refine WpC.condB rfl (fun hb => ?_) (fun hb => ?_)
  ·
   replace h := Sh.ite_pos hb h
   refine WpC.skipD ?_
   refine ⟨_, Heap.le_refl _, ?_⟩
   refine WpC.seq ?_
   refine WpC.block ?_
   refine WpC.seqR ?_
   obtain ⟨y_1, hy_1, h⟩ := Sh.bind_some h
   refine WpOps.pn 1 rfl trivial ?_
   refine WpOps.consE (v := (.rop (cGExpand_token y_1))) rfl rfl (Exact.ixr cGExpand_token hy_1 rfl rfl rfl rfl (by kernel_rfl) (by decide)) ?_
   refine WpOps.consE (v := (AV.agg (cGExpand_token y_1))) rfl rfl (Exact.load_rop rfl rfl rfl) ?_
   refine WpOps.consG rfl rfl (WpO.allocU (z' := cGExpand_token (GExpand_token.mk (GTok.mk (0 : Int) ([] : List UInt8) (0 : Int) (0 : Int) (0 : Int) false) ([] : List (List UInt8)) false false)) rfl rfl (.cons (.refl _) (.cons (.refl _) (.cons (.refl _) (.cons (.refl _) (.cons (.refl _) (.cons (.refl _) (.cons (Sub.nil _) (.cons (.refl _) (.cons (.refl _) .nil))))))))) hH fun g_1 H' hH => ?_)
   refine WpOps.pn 1 rfl trivial ?_
   refine WpOps.consG rfl rfl (WpO.putT (cs' := (cGExpand_token y_1)) (v := (AV.agg (cGExpand_token y_1))) rfl rfl hH (i := 0) rfl rfl rfl rfl rfl rfl rfl fun H' hH => ?_)
   refine WpOps.nil ?_
   refine WpC.seqB (fun x : (Int × List GExpand_token × List (List GExpand_token)) × ((Option (Nat × Nat)) × (Option (Nat × Nat))) => [(2, (.own (List.map (cL 9 cGExpand_token) x.1.2.2).length x.2.2)), (3, (.own (List.map cGExpand_token x.1.2.1).length x.2.1)), (5, (iA x.1.1)), (6, (.own (List.map cGExpand_token arg_1).length p_1)), (8, (.lit (.pointer (some ⟨g_1, 0, none⟩)))), (9, (AV.rows 9 (List.map cGExpand_token l_1))), (10, (iA (l_1.length : Int))), (11, (iA t11_1))]) (fun x H' => (expand_parted_j3 t11_1 arg_1 y_1) x.1 = some st_1 ∧ Holds H0 [.cell g_1 255 (cGExpand_token y_1), .own 255 9 p_1 (List.map cGExpand_token arg_1), .own 255 9 x.2.1 (List.map cGExpand_token x.1.2.1), .own 228 1 x.2.2 (List.map (cL 9 cGExpand_token) x.1.2.2)] H') ?_ ?_
   ·
    refine WpC.seqR ?_
    refine WpOps.consE (v := (AV.agg (cGExpand_token y_1))) rfl rfl (Exact.load rfl rfl (hH.cell (i := 0) rfl) rfl rfl) ?_
    obtain ⟨r_1, hr_1, h⟩ := Sh.bind_some h
    refine WpOps.consE (v := (bA r_1)) rfl rfl (Exact.call rfl rfl rfl (w_expand_token_sign hr_1)) ?_
    refine WpOps.pn 1 rfl trivial ?_
    refine WpOps.nil ?_
    refine WpC.condB rfl (fun hb => ?_) (fun hb => ?_)
    ·
     replace h := Sh.ite_pos hb h
     refine WpC.seqR ?_
     obtain ⟨c_1, h⟩ := Sh.chk_some h
     refine WpOps.pn 3 rfl c_1 ?_
     refine WpOps.nil ?_
     refine WpC.seqR ?_
     refine WpOps.pn 2 rfl trivial ?_
     refine WpOps.nil ?_
     refine WpC.condB rfl (fun hb => ?_) (fun hb => ?_)
     ·
      replace h := Sh.ite_pos hb h
      refine WpC.exitD ?_
      refine ⟨_, Heap.le_refl _, ?_⟩
      refine WpC.regionD ?_
      obtain ⟨c_2, h⟩ := Sh.chk_some h
      refine WpOps.pn 2 rfl c_2 ?_
      refine WpOps.nil ?_
      obtain ⟨_, hle_1, hH⟩ := hH.lose_ (i := 0) rfl
      obtain rfl := Sh.some_inj h
      exact ⟨_, hle_1, ((deep_1 + (1 : Int)), (t11_1 + (1 : Int)), arg_1, commas_1, args_1), (p_1, p_2, p_3), rfl, ⟨rfl, rfl, rfl, rfl, rfl, rfl, rfl, trivial⟩, hH⟩
     ·
      replace h := Sh.ite_neg hb h
      refine WpC.skipD ?_
      exact ⟨_, (Heap.le_refl _), (((deep_1 + (1 : Int)), commas_1, args_1), (p_2, p_3)), ⟨rfl, rfl, rfl, rfl, rfl, rfl, rfl, rfl, trivial⟩, h, hH⟩
    ·
     replace h := Sh.ite_neg hb h
     refine WpC.seqR ?_
     refine WpOps.consE (v := (AV.agg (cGExpand_token y_1))) rfl rfl (Exact.load rfl rfl (hH.cell (i := 0) rfl) rfl rfl) ?_
     obtain ⟨r_2, hr_2, h⟩ := Sh.bind_some h
     refine WpOps.consE (v := (bA r_2)) rfl rfl (Exact.call rfl rfl rfl (w_expand_token_sign hr_2)) ?_
     refine WpOps.pn 1 rfl trivial ?_
     refine WpOps.nil ?_
     refine WpC.condB rfl (fun hb => ?_) (fun hb => ?_)
     ·
      replace h := Sh.ite_pos hb h
      refine WpC.seqR ?_
      obtain ⟨c_3, h⟩ := Sh.chk_some h
      refine WpOps.pn 3 rfl c_3 ?_
      refine WpOps.nil ?_
      refine WpC.seqR ?_
      refine WpOps.pn 2 rfl trivial ?_
      refine WpOps.nil ?_
      refine WpC.condB rfl (fun hb => ?_) (fun hb => ?_)
      ·
       replace h := Sh.ite_pos hb h
       refine WpC.freeze (t := 6) (i := 1) hH rfl rfl (fun H' hH => ?_)
       refine WpC.seqR ?_
       refine WpOps.pn 2 rfl trivial ?_
       refine WpOps.consE (v := (AV.rows 1 (List.map (cL 9 cGExpand_token) ([arg_1] : List (List GExpand_token))))) rfl rfl (Exact.litSlice rfl (by kernel_rfl)) ?_
       obtain ⟨c_4, h⟩ := Sh.chk_some h
       refine WpOps.consG rfl rfl (WpO.pushT (cL 9 cGExpand_token) args_1 ([arg_1] : List (List GExpand_token)) (i := 2) rfl ek281 hH rfl rfl rfl (.rows _) (fun y _ => (one_cL _ _) y) (by simp) c_4 (by decide) fun p_4 H' hH => ?_)
       obtain ⟨c_5, h⟩ := Sh.chk_some h
       refine WpOps.pn 6 rfl c_5 ?_
       refine WpOps.nil ?_
       refine WpC.freeze (t := 2) (i := 2) hH rfl rfl (fun H' hH => ?_)
       refine WpC.freeze (t := 3) (i := 1) hH rfl rfl (fun H' hH => ?_)
       refine WpC.lose (i := 0) hH rfl (fun H' hH => ?_)
       obtain rfl := Sh.some_inj h
       have e := hd_1 _ rfl
       subst e
       have h := hk_1
       obtain rfl := Sh.some_inj h
       refine WpC.ret ?_
       exact VEnds.ret3 rfl rfl rfl rfl ⟨rfl, hH⟩
      ·
       replace h := Sh.ite_neg hb h
       refine WpC.skipD ?_
       exact ⟨_, (Heap.le_refl _), (((deep_1 - (1 : Int)), commas_1, args_1), (p_2, p_3)), ⟨rfl, rfl, rfl, rfl, rfl, rfl, rfl, rfl, trivial⟩, h, hH⟩
     ·
      replace h := Sh.ite_neg hb h
      refine WpC.seqR ?_
      refine WpOps.pn 2 rfl trivial ?_
      obtain ⟨b_1, g_2, h⟩ := Sh.bind_some h
      refine WpOps.cutB 4 43 (bA b_1) rfl ?_ ?_
      ·
       refine WpOps.pn 1 rfl trivial ?_
       refine WpOps.split 40 rfl (fun hb => ?_) (fun hb => ?_)
       ·
        replace g_2 := Sh.ite_pos hb g_2
        refine WpOps.consE (v := (AV.agg (cGExpand_token y_1))) rfl rfl (Exact.load rfl rfl (hH.cell (i := 0) rfl) rfl rfl) ?_
        obtain ⟨r_3, hr_3, g_2⟩ := Sh.bind_some g_2
        refine WpOps.consE (v := (bA r_3)) rfl rfl (Exact.call rfl rfl rfl (w_expand_token_sign hr_3)) ?_
        refine WpOps.pn 1 rfl trivial ?_
        refine WpOps.nil ?_
        obtain rfl := Sh.some_inj g_2
        exact ⟨rfl, rfl⟩
       ·
        replace g_2 := Sh.ite_neg hb g_2
        refine WpOps.pn 3 rfl trivial ?_
        refine WpOps.nil ?_
        obtain rfl := Sh.some_inj g_2
        exact ⟨rfl, rfl⟩
      intro env
      refine WpOps.pn 1 rfl trivial ?_
      refine WpOps.nil ?_
      refine WpC.condB rfl (fun hb => ?_) (fun hb => ?_)
      ·
       replace h := Sh.ite_pos hb h
       refine WpC.freeze (t := 6) (i := 1) hH rfl rfl (fun H' hH => ?_)
       refine WpC.seqDI (fun H => H g_1 = some (.cells 255 (cGExpand_token y_1)) ∧ True) [.I, .I, .I, .E, .I, .I, .I, .E] [0, 1, 2, 4, 5, 6, 3, 7, 8, 9] (by kernel_rfl) (by kernel_rfl) ⟨hH.cell (i := 0) rfl, trivial⟩ ?_
       refine WpPi.pn 2 rfl trivial ?_
       refine WpPi.consI (v := (AV.rows 1 (List.map (cL 9 cGExpand_token) ([arg_1] : List (List GExpand_token))))) rfl rfl rfl rfl (fun _ => Exact.litSlice rfl (by kernel_rfl)) ?_
       refine WpPi.pn 1 rfl trivial ?_
       refine WpPi.consV (v := (AV.agg (cGExpand_token y_1))) rfl rfl rfl rfl (fun _ hi => Exact.load rfl rfl hi.1 rfl rfl) ?_
       refine WpPi.consI (v := (AV.rows 9 (List.map cGExpand_token ([y_1] : List GExpand_token)))) rfl rfl rfl rfl (fun _ => Exact.litSlice rfl (by kernel_rfl)) ?_
       obtain ⟨c_6, h⟩ := Sh.chk_some h
       refine WpPi.consF rfl rfl rfl rfl (WpO.pushT (cL 9 cGExpand_token) args_1 ([arg_1] : List (List GExpand_token)) (i := 2) rfl ek281 hH rfl rfl rfl (.rows _) (fun y _ => (one_cL _ _) y) (by simp) c_6 (by decide) fun p_5 H' hH => ⟨⟨hH.cell (i := 0) rfl, trivial⟩, ?_⟩)
       obtain ⟨c_7, h⟩ := Sh.chk_some h
       refine WpPi.consF rfl rfl rfl rfl (WpO.pushT cGExpand_token commas_1 ([y_1] : List GExpand_token) (i := 1) rfl ek228 hH rfl rfl rfl (.rows _) (fun y _ => one_cGExpand_token y) (by simp) c_7 (by decide) fun p_6 H' hH => ⟨⟨hH.cell (i := 0) rfl, trivial⟩, ?_⟩)
       refine WpPi.pn 2 rfl trivial ?_
       refine WpPi.nil ?_
       refine WpC.seqR ?_
       refine WpOps.pn 1 rfl trivial ?_
       have hH := hH.nil 255 9
       refine WpOps.nil ?_
       refine WpC.exitD ?_
       refine ⟨_, Heap.le_refl _, ?_⟩
       refine WpC.regionD ?_
       obtain ⟨c_8, h⟩ := Sh.chk_some h
       refine WpOps.pn 2 rfl c_8 ?_
       refine WpOps.nil ?_
       obtain ⟨_, hle_2, hH⟩ := hH.lose_ (i := 1) rfl
       obtain rfl := Sh.some_inj h
       exact ⟨_, hle_2, (deep_1, (t11_1 + (1 : Int)), ([] : List GExpand_token), (commas_1 ++ ([y_1] : List GExpand_token)), (args_1 ++ ([arg_1] : List (List GExpand_token)))), (none, p_6, p_5), rfl, ⟨rfl, rfl, rfl, rfl, rfl, rfl, rfl, trivial⟩, hH⟩
      ·
       replace h := Sh.ite_neg hb h
       refine WpC.skipD ?_
       exact ⟨_, (Heap.le_refl _), ((deep_1, commas_1, args_1), (p_2, p_3)), ⟨rfl, rfl, rfl, rfl, rfl, rfl, rfl, rfl, trivial⟩, h, hH⟩
   ·
    rintro ⟨⟨deep_2, commas_2, args_2⟩, ⟨p_7, p_8⟩⟩ env H' ⟨h, hH⟩
    try dsimp only at h
    refine WpC.regionD ?_
    refine WpOps.pn 1 rfl trivial ?_
    refine WpOps.consE (v := (AV.agg (cGExpand_token y_1))) rfl rfl (Exact.load rfl rfl (hH.cell (i := 0) rfl) rfl rfl) ?_
    refine WpOps.consE (v := (AV.rows 9 (List.map cGExpand_token ([y_1] : List GExpand_token)))) rfl rfl (Exact.litSlice rfl (by kernel_rfl)) ?_
    obtain ⟨c_9, h⟩ := Sh.chk_some h
    refine WpOps.consG rfl rfl (WpO.pushT cGExpand_token arg_1 ([y_1] : List GExpand_token) (i := 1) rfl ek228 hH rfl rfl rfl (.rows _) (fun y _ => one_cGExpand_token y) (by simp) c_9 (by decide) fun p_9 H' hH => ?_)
    refine WpOps.pn 1 rfl trivial ?_
    refine WpOps.nil ?_
    refine ⟨_, Heap.le_refl _, ?_⟩
    refine WpC.regionD ?_
    obtain ⟨c_10, h⟩ := Sh.chk_some h
    refine WpOps.pn 2 rfl c_10 ?_
    refine WpOps.nil ?_
    obtain ⟨_, hle_3, hH⟩ := hH.lose_ (i := 0) rfl
    obtain rfl := Sh.some_inj h
    exact ⟨_, hle_3, (deep_2, (t11_1 + (1 : Int)), (arg_1 ++ ([y_1] : List GExpand_token)), commas_2, args_2), (p_9, p_7, p_8), rfl, ⟨rfl, rfl, rfl, rfl, rfl, rfl, rfl, trivial⟩, hH⟩
  ·
   replace h := Sh.ite_neg hb h
   refine WpC.lose (i := 0) hH rfl (fun H' hH => ?_)
   refine WpC.lose (i := 0) hH rfl (fun H' hH => ?_)
   refine WpC.lose (i := 0) hH rfl (fun H' hH => ?_)
   obtain rfl := Sh.some_inj h
   have e := hd_1 _ rfl
   subst e
   refine WpC.exit ?_
   exact ⟨((), ()), trivial, hk_1, hH⟩
 ·
  rintro ⟨_, _⟩ env H' ⟨h, hH⟩
  try dsimp only at h
  refine ⟨_, Heap.le_refl _, ?_⟩
  refine WpC.seqR ?_
  refine WpOps.pn 1 rfl trivial ?_
  have hH := hH.nil 228 1
  refine WpOps.pn 1 rfl trivial ?_
  have hH := hH.nil 255 9
  refine WpOps.pn 1 rfl trivial ?_
  refine WpOps.nil ?_
  refine WpC.freeze (t := 2) (i := 1) hH rfl rfl (fun H' hH => ?_)
  refine WpC.freeze (t := 3) (i := 0) hH rfl rfl (fun H' hH => ?_)
  obtain rfl := Sh.some_inj h
  refine WpC.ret ?_
  exact VEnds.ret3 rfl rfl rfl rfl ⟨rfl, hH⟩
theorem w_expand_both {H0 : Heap} {a_1 : List (List UInt8)} {b_1 : List (List UInt8)} {r : List (List UInt8)} (h : expand_both a_1 b_1 = some r) : TCall Tryz.prog 174 [(AV.rows 1 (List.map cS a_1)), (AV.rows 1 (List.map cS b_1))] H0 (fun v H' => v = (AV.rows 1 (List.map cS r)) ∧ H' = H0) noE := by
 refine id (TCall.body Tryz.func174 rfl rfl ?_)
 have hH : Holds H0 [] H0 := rfl
 refine WpC.seqR ?_
 refine WpOps.pn 1 rfl trivial ?_
 refine WpOps.nil ?_
 refine WpC.seqR ?_
 refine WpOps.pn 1 rfl trivial ?_
 have hH := hH.nil 9 1
 refine WpOps.nil ?_
 refine WpC.seq ?_
 refine WpC.seqR ?_
 refine WpOps.pn 2 rfl trivial ?_
 refine WpOps.at 9 (len_map _ _) ?_
 refine WpOps.pn 1 rfl trivial ?_
 refine WpOps.nil ?_
 refine WpC.blockK (fun x : (List (List UInt8)) × ((Option (Nat × Nat))) => [(5, (.own (List.map cS x.1).length x.2))]) (fun x H' => expand_both_j1 x.1 = some r ∧ Holds H0 [.own 9 1 x.2 (List.map cS x.1)] H') ?_ ?_
 ·
  obtain ⟨o_1, ho_1, hk_1⟩ := Sh.bind_some h
  refine WpC.loopS (expand_both_b2 a_1 b_1) (fun (s : Int × List (List UInt8)) (a : (Option (Nat × Nat))) => [(1, (AV.rows 1 (List.map cS b_1))), (5, (.own (List.map cS s.2).length a)), (8, (AV.rows 1 (List.map cS a_1))), (9, (iA (a_1.length : Int))), (10, (iA s.1))]) (fun (s : Int × List (List UInt8)) (a : (Option (Nat × Nat))) H' => Holds H0 [.own 9 1 a (List.map cS s.2)] H') o_1 ((0 : Int), ([] : List (List UInt8))) none ho_1 ⟨rfl, rfl, rfl, rfl, rfl, trivial⟩ hH ?_
  rintro ⟨t10_1, out_1⟩ p_1 st_1 env H' h hd_1 hH
  refine WpC.seqR ?_
  refine WpOps.pn 1 rfl trivial ?_
  refine WpOps.nil ?_
  refine WpC.seq ?_
  refine WpC.condB rfl (fun hb => ?_) (fun hb => ?_)
  ·
   replace h := Sh.ite_pos hb h
   refine WpC.skipD ?_
   refine ⟨_, Heap.le_refl _, ?_⟩
   refine WpC.seq ?_
   refine WpC.block ?_
   refine WpC.seqR ?_
   obtain ⟨y_1, hy_1, h⟩ := Sh.bind_some h
   refine WpOps.consE (v := (.rop (cS y_1))) rfl rfl (Exact.ixr cS hy_1 rfl rfl rfl rfl (by kernel_rfl) (by decide)) ?_
   refine WpOps.consE (v := (sA y_1)) rfl rfl (Exact.load_rop rfl rfl rfl) ?_
   refine WpOps.pn 1 rfl trivial ?_
   refine WpOps.nil ?_
   refine WpC.seqR ?_
   obtain ⟨r_1, hr_1, h⟩ := Sh.bind_some h
   refine WpOps.pn 2 rfl trivial ?_
   refine WpOps.consE (v := (bA r_1)) rfl rfl (Exact.call rfl rfl rfl (w_slices_Contains_Lstring_string hr_1)) ?_
   refine WpOps.nil ?_
   refine WpC.condB rfl (fun hb => ?_) (fun hb => ?_)
   ·
    replace h := Sh.ite_pos hb h
    refine WpC.regionD ?_
    refine WpOps.pn 2 rfl trivial ?_
    refine WpOps.consE (v := (AV.rows 1 (List.map cS ([y_1] : List (List UInt8))))) rfl rfl (Exact.litSlice rfl (by kernel_rfl)) ?_
    obtain ⟨c_1, h⟩ := Sh.chk_some h
    refine WpOps.consG rfl rfl (WpO.pushT cS out_1 ([y_1] : List (List UInt8)) (i := 0) rfl ek23 hH rfl rfl rfl (.rows _) (fun y _ => one_cS y) (by simp) c_1 (by decide) fun p_2 H' hH => ?_)
    refine WpOps.pn 1 rfl trivial ?_
    refine WpOps.nil ?_
    refine ⟨_, Heap.le_refl _, ?_⟩
    refine WpC.regionD ?_
    obtain ⟨c_2, h⟩ := Sh.chk_some h
    refine WpOps.pn 2 rfl c_2 ?_
    refine WpOps.nil ?_
    obtain rfl := Sh.some_inj h
    exact ⟨_, (Heap.le_refl _), ((t10_1 + (1 : Int)), (out_1 ++ ([y_1] : List (List UInt8)))), p_2, rfl, ⟨rfl, rfl, rfl, rfl, rfl, trivial⟩, hH⟩
   ·
    replace h := Sh.ite_neg hb h
    refine WpC.skipD ?_
    refine ⟨_, Heap.le_refl _, ?_⟩
    refine WpC.regionD ?_
    obtain ⟨c_3, h⟩ := Sh.chk_some h
    refine WpOps.pn 2 rfl c_3 ?_
    refine WpOps.nil ?_
    obtain rfl := Sh.some_inj h
    exact ⟨_, (Heap.le_refl _), ((t10_1 + (1 : Int)), out_1), p_1, rfl, ⟨rfl, rfl, rfl, rfl, rfl, trivial⟩, hH⟩
  ·
   replace h := Sh.ite_neg hb h
   obtain rfl := Sh.some_inj h
   have e := hd_1 _ rfl
   subst e
   refine WpC.exit ?_
   exact ⟨(out_1, p_1), ⟨rfl, trivial⟩, hk_1, hH⟩
 ·
  rintro ⟨out_2, p_3⟩ env H' ⟨h, hH⟩
  try dsimp only at h
  refine ⟨_, Heap.le_refl _, ?_⟩
  refine WpC.seqR ?_
  refine WpOps.pn 2 rfl trivial ?_
  refine WpOps.nil ?_
  refine WpC.freeze (t := 4) (i := 0) hH rfl rfl (fun H' hH => ?_)
  obtain rfl := Sh.some_inj h
  refine WpC.ret ?_
  exact VEnds.ret1 rfl rfl ⟨rfl, hH⟩
theorem w_expand_shared {H0 : Heap} {m_1 : GMacro} {args_1 : List (List GExpand_token)} {commas_1 : List GExpand_token} {r : List (List GExpand_token) × Int} (h : expand_shared m_1 args_1 commas_1 = some r) : TCall Tryz.prog 175 [(AV.agg (cGMacro m_1)), (AV.rows 1 (List.map (cL 9 cGExpand_token) args_1)), (AV.rows 9 (List.map cGExpand_token commas_1))] H0 (fun v H' => v = (.tup [(AV.rows 1 (List.map (cL 9 cGExpand_token) r.1)), (iA r.2)]) ∧ H' = H0) noE := by
 refine id (TCall.body Tryz.func175 rfl rfl ?_)
 have hH : Holds H0 [] H0 := rfl
 refine WpC.seqR ?_
 refine WpOps.consG rfl rfl (WpO.boxT (v := (AV.agg (cGMacro m_1))) rfl rfl hH fun g_1 H' hH => ?_)
 refine WpOps.pn 2 rfl trivial ?_
 refine WpOps.nil ?_
 refine WpC.seqR ?_
 refine WpOps.pn 1 rfl trivial ?_
 refine WpOps.consE (v := (AV.rows 1 (List.map cS m_1.params))) rfl rfl (Exact.load rfl rfl (hH.cell (i := 0) rfl) rfl rfl) ?_
 refine WpOps.pn 1 rfl trivial ?_
 refine WpOps.at 14 (len_map _ _) ?_
 refine WpOps.pn 1 rfl trivial ?_
 refine WpOps.nil ?_
 refine WpC.seq ?_
 refine WpC.seqR ?_
 refine WpOps.pn 2 rfl trivial ?_
 obtain ⟨b_1, g_2, h⟩ := Sh.bind_some h
 refine WpOps.cutB 5 21 (bA b_1) rfl ?_ ?_
 ·
  refine WpOps.pn 1 rfl trivial ?_
  refine WpOps.split 17 rfl (fun hb => ?_) (fun hb => ?_)
  ·
   replace g_2 := Sh.ite_pos hb g_2
   refine WpOps.pn 1 rfl trivial ?_
   refine WpOps.consE (v := (bA m_1.variadic)) rfl rfl (Exact.load rfl rfl (hH.cell (i := 0) rfl) rfl rfl) ?_
   refine WpOps.pn 2 rfl trivial ?_
   refine WpOps.nil ?_
   obtain rfl := Sh.some_inj g_2
   exact ⟨rfl, rfl⟩
  ·
   replace g_2 := Sh.ite_neg hb g_2
   refine WpOps.pn 4 rfl trivial ?_
   refine WpOps.nil ?_
   obtain rfl := Sh.some_inj g_2
   exact ⟨rfl, rfl⟩
 intro env
 obtain ⟨b_2, g_3, h⟩ := Sh.bind_some h
 refine WpOps.cutB 5 26 (bA b_2) rfl ?_ ?_
 ·
  refine WpOps.pn 1 rfl trivial ?_
  refine WpOps.split 22 rfl (fun hb => ?_) (fun hb => ?_)
  ·
   replace g_3 := Sh.ite_pos hb g_3
   refine WpOps.pn 2 rfl trivial ?_
   refine WpOps.at 24 (len_map _ _) ?_
   refine WpOps.pn 2 rfl trivial ?_
   refine WpOps.nil ?_
   obtain rfl := Sh.some_inj g_3
   exact ⟨rfl, rfl⟩
  ·
   replace g_3 := Sh.ite_neg hb g_3
   refine WpOps.pn 4 rfl trivial ?_
   refine WpOps.nil ?_
   obtain rfl := Sh.some_inj g_3
   exact ⟨rfl, rfl⟩
 intro env
 obtain ⟨b_3, g_4, h⟩ := Sh.bind_some h
 refine WpOps.cutB 7 33 (bA b_3) rfl ?_ ?_
 ·
  refine WpOps.pn 1 rfl trivial ?_
  refine WpOps.split 27 rfl (fun hb => ?_) (fun hb => ?_)
  ·
   replace g_4 := Sh.ite_pos hb g_4
   obtain ⟨y_1, hy_1, g_4⟩ := Sh.bind_some g_4
   refine WpOps.pn 1 rfl trivial ?_
   refine WpOps.consE (v := (.rop ((cL 9 cGExpand_token) y_1))) rfl rfl (Exact.ixr (cL 9 cGExpand_token) hy_1 rfl rfl rfl rfl (by kernel_rfl) (by decide)) ?_
   refine WpOps.consE (v := (AV.rows 9 (List.map cGExpand_token y_1))) rfl rfl (Exact.load_rop rfl rfl rfl) ?_
   refine WpOps.pn 1 rfl trivial ?_
   refine WpOps.at 31 (len_map _ _) ?_
   refine WpOps.pn 2 rfl trivial ?_
   refine WpOps.nil ?_
   obtain rfl := Sh.some_inj g_4
   exact ⟨rfl, rfl⟩
  ·
   replace g_4 := Sh.ite_neg hb g_4
   refine WpOps.pn 6 rfl trivial ?_
   refine WpOps.nil ?_
   obtain rfl := Sh.some_inj g_4
   exact ⟨rfl, rfl⟩
 intro env
 refine WpOps.nil ?_
 refine WpC.condB rfl (fun hb => ?_) (fun hb => ?_)
 ·
  replace h := Sh.ite_pos hb h
  refine WpC.seqR ?_
  refine WpOps.pn 2 rfl trivial ?_
  refine WpOps.nil ?_
  refine WpC.sub (t := 6) (Sub.nil 1) ?_
  refine WpC.lose (i := 0) hH rfl (fun H' hH => ?_)
  obtain rfl := Sh.some_inj h
  refine WpC.ret ?_
  exact VEnds.ret2 rfl rfl rfl ⟨rfl, hH⟩
 ·
  replace h := Sh.ite_neg hb h
  refine WpC.skipD ?_
  refine ⟨_, Heap.le_refl _, ?_⟩
  refine WpC.seq ?_
  refine WpC.seqR ?_
  refine WpOps.pn 1 rfl trivial ?_
  refine WpOps.consE (v := (bA m_1.variadic)) rfl rfl (Exact.load rfl rfl (hH.cell (i := 0) rfl) rfl rfl) ?_
  refine WpOps.pn 1 rfl trivial ?_
  refine WpOps.nil ?_
  refine WpC.condB rfl (fun hb => ?_) (fun hb => ?_)
  ·
   replace h := Sh.ite_pos hb h
   refine WpC.seq ?_
   refine WpC.seqR ?_
   refine WpOps.pn 2 rfl trivial ?_
   refine WpOps.at 38 (len_map _ _) ?_
   refine WpOps.pn 2 rfl trivial ?_
   refine WpOps.nil ?_
   refine WpC.condB rfl (fun hb => ?_) (fun hb => ?_)
   ·
    replace h := Sh.ite_pos hb h
    refine WpC.seqR ?_
    refine WpOps.pn 2 rfl trivial ?_
    refine WpOps.nil ?_
    refine WpC.sub (t := 6) (Sub.nil 1) ?_
    refine WpC.lose (i := 0) hH rfl (fun H' hH => ?_)
    obtain rfl := Sh.some_inj h
    refine WpC.ret ?_
    exact VEnds.ret2 rfl rfl rfl ⟨rfl, hH⟩
   ·
    replace h := Sh.ite_neg hb h
    refine WpC.skipD ?_
    refine ⟨_, Heap.le_refl _, ?_⟩
    refine WpC.seqR ?_
    refine WpOps.pn 3 rfl trivial ?_
    refine WpOps.nil ?_
    refine WpC.lose (i := 0) hH rfl (fun H' hH => ?_)
    obtain rfl := Sh.some_inj h
    refine WpC.ret ?_
    exact VEnds.ret2 rfl rfl rfl ⟨rfl, hH⟩
  ·
   replace h := Sh.ite_neg hb h
   refine WpC.skipD ?_
   refine ⟨_, Heap.le_refl _, ?_⟩
   refine WpC.seq ?_
   refine WpC.seqR ?_
   refine WpOps.pn 2 rfl trivial ?_
   obtain ⟨b_4, g_5, h⟩ := Sh.bind_some h
   refine WpOps.cutB 5 48 (bA b_4) rfl ?_ ?_
   ·
    refine WpOps.pn 1 rfl trivial ?_
    refine WpOps.split 44 rfl (fun hb => ?_) (fun hb => ?_)
    ·
     replace g_5 := Sh.ite_pos hb g_5
     refine WpOps.pn 2 rfl trivial ?_
     refine WpOps.at 46 (len_map _ _) ?_
     refine WpOps.pn 2 rfl trivial ?_
     refine WpOps.nil ?_
     obtain rfl := Sh.some_inj g_5
     exact ⟨rfl, rfl⟩
    ·
     replace g_5 := Sh.ite_neg hb g_5
     refine WpOps.pn 4 rfl trivial ?_
     refine WpOps.nil ?_
     obtain rfl := Sh.some_inj g_5
     exact ⟨rfl, rfl⟩
   intro env
   obtain ⟨b_5, g_6, h⟩ := Sh.bind_some h
   refine WpOps.cutB 7 55 (bA b_5) rfl ?_ ?_
   ·
    refine WpOps.pn 1 rfl trivial ?_
    refine WpOps.split 49 rfl (fun hb => ?_) (fun hb => ?_)
    ·
     replace g_6 := Sh.ite_pos hb g_6
     obtain ⟨y_2, hy_2, g_6⟩ := Sh.bind_some g_6
     refine WpOps.pn 1 rfl trivial ?_
     refine WpOps.consE (v := (.rop ((cL 9 cGExpand_token) y_2))) rfl rfl (Exact.ixr (cL 9 cGExpand_token) hy_2 rfl rfl rfl rfl (by kernel_rfl) (by decide)) ?_
     refine WpOps.consE (v := (AV.rows 9 (List.map cGExpand_token y_2))) rfl rfl (Exact.load_rop rfl rfl rfl) ?_
     refine WpOps.pn 1 rfl trivial ?_
     refine WpOps.at 53 (len_map _ _) ?_
     refine WpOps.pn 2 rfl trivial ?_
     refine WpOps.nil ?_
     obtain rfl := Sh.some_inj g_6
     exact ⟨rfl, rfl⟩
    ·
     replace g_6 := Sh.ite_neg hb g_6
     refine WpOps.pn 6 rfl trivial ?_
     refine WpOps.nil ?_
     obtain rfl := Sh.some_inj g_6
     exact ⟨rfl, rfl⟩
   intro env
   refine WpOps.nil ?_
   refine WpC.condB rfl (fun hb => ?_) (fun hb => ?_)
   ·
    replace h := Sh.ite_pos hb h
    cases h
   ·
    replace h := Sh.ite_neg hb h
    refine WpC.skipD ?_
    refine ⟨_, Heap.le_refl _, ?_⟩
    refine WpC.seq ?_
    refine WpC.seqR ?_
    refine WpOps.pn 2 rfl trivial ?_
    refine WpOps.at 58 (len_map _ _) ?_
    refine WpOps.pn 2 rfl trivial ?_
    refine WpOps.nil ?_
    refine WpC.condB rfl (fun hb => ?_) (fun hb => ?_)
    ·
     replace h := Sh.ite_pos hb h
     refine WpC.seqR ?_
     refine WpOps.pn 2 rfl trivial ?_
     refine WpOps.nil ?_
     refine WpC.sub (t := 6) (Sub.nil 1) ?_
     refine WpC.lose (i := 0) hH rfl (fun H' hH => ?_)
     obtain rfl := Sh.some_inj h
     refine WpC.ret ?_
     exact VEnds.ret2 rfl rfl rfl ⟨rfl, hH⟩
    ·
     replace h := Sh.ite_neg hb h
     refine WpC.skipD ?_
     refine ⟨_, Heap.le_refl _, ?_⟩
     refine WpC.seqR ?_
     refine WpOps.pn 1 rfl trivial ?_
     have hH := hH.nil 255 9
     refine WpOps.nil ?_
     refine WpC.seq ?_
     refine WpC.seqR ?_
     obtain ⟨c_1, h⟩ := Sh.chk_some h
     refine WpOps.pn 2 rfl trivial ?_
     refine WpOps.pn 1 rfl (show 0 ≤ (m_1.params.length : Int) ∧ True ∧ True ∧ ((m_1.params.length : Int)).toNat ≤ (List.map (cL 9 cGExpand_token) args_1).length ∧ True from ⟨(by omega), trivial, trivial, (by simp only [List.length_map]; omega), trivial⟩) ?_
     refine WpOps.at 63 (rows_drop 1 (cL 9 cGExpand_token) args_1 _) ?_
     refine WpOps.pn 1 rfl trivial ?_
     refine WpOps.at 64 (len_map _ _) ?_
     refine WpOps.pn 1 rfl trivial ?_
     refine WpOps.nil ?_
     refine WpC.lose (i := 1) hH rfl (fun H' hH => ?_)
     refine WpC.blockK (fun x : (List GExpand_token) × ((Option (Nat × Nat))) => [(1, (AV.rows 1 (List.map (cL 9 cGExpand_token) args_1))), (8, (iA (m_1.params.length : Int))), (9, (.own (List.map cGExpand_token x.1).length x.2))]) (fun x H' => expand_shared_j1 x.1 = some r ∧ Holds H0 [.own 255 9 x.2 (List.map cGExpand_token x.1)] H') ?_ ?_
     ·
      obtain ⟨o_1, ho_1, hk_1⟩ := Sh.bind_some h
      refine WpC.loopS (expand_shared_b2 m_1 args_1 commas_1) (fun (s : Int × List GExpand_token) (a : (Option (Nat × Nat))) => [(1, (AV.rows 1 (List.map (cL 9 cGExpand_token) args_1))), (2, (AV.rows 9 (List.map cGExpand_token commas_1))), (8, (iA (m_1.params.length : Int))), (9, (.own (List.map cGExpand_token s.2).length a)), (63, (AV.rows 1 (List.map (cL 9 cGExpand_token) (args_1.drop ((m_1.params.length : Int)).toNat)))), (64, (iA ((args_1.drop ((m_1.params.length : Int)).toNat).length : Int))), (65, (iA s.1))]) (fun (s : Int × List GExpand_token) (a : (Option (Nat × Nat))) H' => Holds H0 [.own 255 9 a (List.map cGExpand_token s.2)] H') o_1 ((0 : Int), ([] : List GExpand_token)) none ho_1 ⟨rfl, rfl, rfl, rfl, rfl, rfl, rfl, trivial⟩ hH ?_
      rintro ⟨t65_1, rest_1⟩ p_1 st_1 env H' h hd_1 hH
      refine WpC.seqR ?_
      refine WpOps.pn 1 rfl trivial ?_
      refine WpOps.nil ?_
      refine WpC.seq ?_
      refine WpC.condB rfl (fun hb => ?_) (fun hb => ?_)
      ·
       replace h := Sh.ite_pos hb h
       refine WpC.skipD ?_
       refine ⟨_, Heap.le_refl _, ?_⟩
       refine WpC.seq ?_
       refine WpC.block ?_
       refine WpC.seqR ?_
       obtain ⟨y_3, hy_3, h⟩ := Sh.bind_some h
       refine WpOps.pn 1 rfl trivial ?_
       refine WpOps.consE (v := (.rop ((cL 9 cGExpand_token) y_3))) rfl rfl (Exact.ixr (cL 9 cGExpand_token) hy_3 rfl rfl rfl rfl (by kernel_rfl) (by decide)) ?_
       refine WpOps.consE (v := (AV.rows 9 (List.map cGExpand_token y_3))) rfl rfl (Exact.load_rop rfl rfl rfl) ?_
       refine WpOps.pn 2 rfl trivial ?_
       refine WpOps.nil ?_
       refine WpC.seqK (fun x : (List GExpand_token) × ((Option (Nat × Nat))) => [(1, (AV.rows 1 (List.map (cL 9 cGExpand_token) args_1))), (2, (AV.rows 9 (List.map cGExpand_token commas_1))), (8, (iA (m_1.params.length : Int))), (9, (.own (List.map cGExpand_token x.1).length x.2)), (11, (AV.rows 9 (List.map cGExpand_token y_3))), (63, (AV.rows 1 (List.map (cL 9 cGExpand_token) (args_1.drop ((m_1.params.length : Int)).toNat)))), (64, (iA ((args_1.drop ((m_1.params.length : Int)).toNat).length : Int))), (65, (iA t65_1))]) (fun x H' => (expand_shared_j3 t65_1 y_3) x.1 = some st_1 ∧ Holds H0 [.own 255 9 x.2 (List.map cGExpand_token x.1)] H') ?_ ?_
       ·
        refine WpC.seqR ?_
        refine WpOps.pn 2 rfl trivial ?_
        refine WpOps.nil ?_
        refine WpC.condB rfl (fun hb => ?_) (fun hb => ?_)
        ·
         replace h := Sh.ite_pos hb h
         refine WpC.regionD ?_
         obtain ⟨c_2, h⟩ := Sh.chk_some h
         obtain ⟨c_3, h⟩ := Sh.chk_some h
         obtain ⟨y_4, hy_4, h⟩ := Sh.bind_some h
         refine WpOps.pn 6 rfl ⟨c_3, c_2⟩ ?_
         refine WpOps.consE (v := (.rop (cGExpand_token y_4))) rfl rfl (Exact.ixr cGExpand_token hy_4 rfl rfl rfl rfl (by kernel_rfl) (by decide)) ?_
         refine WpOps.consE (v := (AV.agg (cGExpand_token y_4))) rfl rfl (Exact.load_rop rfl rfl rfl) ?_
         refine WpOps.consE (v := (AV.rows 9 (List.map cGExpand_token ([y_4] : List GExpand_token)))) rfl rfl (Exact.litSlice rfl (by kernel_rfl)) ?_
         obtain ⟨c_4, h⟩ := Sh.chk_some h
         refine WpOps.consG rfl rfl (WpO.pushT cGExpand_token rest_1 ([y_4] : List GExpand_token) (i := 0) rfl ek228 hH rfl rfl rfl (.rows _) (fun y _ => one_cGExpand_token y) (by simp) c_4 (by decide) fun p_2 H' hH => ?_)
         refine WpOps.pn 1 rfl trivial ?_
         refine WpOps.nil ?_
         exact ⟨_, (Heap.le_refl _), ((rest_1 ++ ([y_4] : List GExpand_token)), p_2), ⟨rfl, rfl, rfl, rfl, rfl, rfl, rfl, rfl, trivial⟩, h, hH⟩
        ·
         replace h := Sh.ite_neg hb h
         refine WpC.skipD ?_
         exact ⟨_, (Heap.le_refl _), (rest_1, p_1), ⟨rfl, rfl, rfl, rfl, rfl, rfl, rfl, rfl, trivial⟩, h, hH⟩
       ·
        rintro ⟨rest_2, p_3⟩ env H' ⟨h, hH⟩
        try dsimp only at h
        refine WpC.regionD ?_
        obtain ⟨c_5, h⟩ := Sh.chk_some h
        refine WpOps.pn 2 rfl trivial ?_
        refine WpOps.consG rfl rfl (WpO.pushA cGExpand_token rest_2 y_3 (i := 0) rfl ek228 hH rfl rfl rfl (.rows _) (fun y _ => one_cGExpand_token y) c_5 (by decide) fun p_4 H' hH => ?_)
        refine WpOps.pn 1 rfl trivial ?_
        refine WpOps.nil ?_
        refine ⟨_, Heap.le_refl _, ?_⟩
        refine WpC.regionD ?_
        obtain ⟨c_6, h⟩ := Sh.chk_some h
        refine WpOps.pn 2 rfl c_6 ?_
        refine WpOps.nil ?_
        obtain rfl := Sh.some_inj h
        exact ⟨_, (Heap.le_refl _), ((t65_1 + (1 : Int)), (rest_2 ++ y_3)), p_4, rfl, ⟨rfl, rfl, rfl, rfl, rfl, rfl, rfl, trivial⟩, hH⟩
      ·
       replace h := Sh.ite_neg hb h
       obtain rfl := Sh.some_inj h
       have e := hd_1 _ rfl
       subst e
       refine WpC.exit ?_
       exact ⟨(rest_1, p_1), ⟨rfl, rfl, rfl, trivial⟩, hk_1, hH⟩
     ·
      rintro ⟨rest_3, p_5⟩ env H' ⟨h, hH⟩
      try dsimp only at h
      refine ⟨_, Heap.le_refl _, ?_⟩
      cases h
theorem w_macro_Param {H0 : Heap} {m_1 : GMacro} {name_1 : List UInt8} {r : Int} (h : macro_Param m_1 name_1 = some r) : TCall Tryz.prog 159 [(AV.agg (cGMacro m_1)), (sA name_1)] H0 (fun v H' => v = (iA r) ∧ H' = H0) noE := by
 refine id (TCall.body Tryz.func159 rfl rfl ?_)
 have hH : Holds H0 [] H0 := rfl
 refine WpC.seqR ?_
 refine WpOps.consG rfl rfl (WpO.boxT (v := (AV.agg (cGMacro m_1))) rfl rfl hH fun g_1 H' hH => ?_)
 refine WpOps.pn 1 rfl trivial ?_
 refine WpOps.nil ?_
 refine WpC.seq ?_
 refine WpC.seqR ?_
 refine WpOps.pn 1 rfl trivial ?_
 refine WpOps.consE (v := (bA m_1.variadic)) rfl rfl (Exact.load rfl rfl (hH.cell (i := 0) rfl) rfl rfl) ?_
 obtain ⟨b_1, g_2, h⟩ := Sh.bind_some h
 refine WpOps.cutB 4 10 (bA b_1) rfl ?_ ?_
 ·
  refine WpOps.pn 1 rfl trivial ?_
  refine WpOps.split 7 rfl (fun hb => ?_) (fun hb => ?_)
  ·
   replace g_2 := Sh.ite_pos hb g_2
   refine WpOps.pn 3 rfl trivial ?_
   refine WpOps.nil ?_
   obtain rfl := Sh.some_inj g_2
   exact ⟨rfl, rfl⟩
  ·
   replace g_2 := Sh.ite_neg hb g_2
   refine WpOps.pn 3 rfl trivial ?_
   refine WpOps.nil ?_
   obtain rfl := Sh.some_inj g_2
   exact ⟨rfl, rfl⟩
 intro env
 refine WpOps.nil ?_
 refine WpC.condB rfl (fun hb => ?_) (fun hb => ?_)
 ·
  replace h := Sh.ite_pos hb h
  refine WpC.seqR ?_
  refine WpOps.pn 1 rfl trivial ?_
  refine WpOps.consE (v := (AV.rows 1 (List.map cS m_1.params))) rfl rfl (Exact.load rfl rfl (hH.cell (i := 0) rfl) rfl rfl) ?_
  refine WpOps.pn 1 rfl trivial ?_
  refine WpOps.at 13 (len_map _ _) ?_
  refine WpOps.pn 1 rfl trivial ?_
  refine WpOps.nil ?_
  refine WpC.lose (i := 0) hH rfl (fun H' hH => ?_)
  obtain rfl := Sh.some_inj h
  refine WpC.ret ?_
  exact VEnds.ret1 rfl rfl ⟨rfl, hH⟩
 ·
  replace h := Sh.ite_neg hb h
  refine WpC.skipD ?_
  refine ⟨_, Heap.le_refl _, ?_⟩
  refine WpC.seqR ?_
  refine WpOps.pn 1 rfl trivial ?_
  refine WpOps.consE (v := (AV.rows 1 (List.map cS m_1.params))) rfl rfl (Exact.load rfl rfl (hH.cell (i := 0) rfl) rfl rfl) ?_
  obtain ⟨r_1, hr_1, h⟩ := Sh.bind_some h
  refine WpOps.pn 1 rfl trivial ?_
  refine WpOps.consE (v := (iA r_1)) rfl rfl (Exact.call rfl rfl rfl (w_slices_Index_Lstring_string hr_1)) ?_
  refine WpOps.pn 1 rfl trivial ?_
  refine WpOps.nil ?_
  refine WpC.lose (i := 0) hH rfl (fun H' hH => ?_)
  obtain rfl := Sh.some_inj h
  refine WpC.ret ?_
  exact VEnds.ret1 rfl rfl ⟨rfl, hH⟩
theorem w_expand_place {H0 : Heap} {m_1 : GMacro} {i_1 : Int} {r : Int} (h : expand_place m_1 i_1 = some r) : TCall Tryz.prog 194 [(AV.agg (cGMacro m_1)), (iA i_1)] H0 (fun v H' => v = (iA r) ∧ H' = H0) noE := by
 refine id (TCall.body Tryz.func194 rfl rfl ?_)
 have hH : Holds H0 [] H0 := rfl
 refine WpC.seqR ?_
 refine WpOps.consG rfl rfl (WpO.boxT (v := (AV.agg (cGMacro m_1))) rfl rfl hH fun g_1 H' hH => ?_)
 refine WpOps.pn 1 rfl trivial ?_
 refine WpOps.nil ?_
 refine WpC.seq ?_
 refine WpC.seqR ?_
 refine WpOps.pn 2 rfl trivial ?_
 obtain ⟨b_1, g_2, h⟩ := Sh.bind_some h
 refine WpOps.cutB 7 13 (bA b_1) rfl ?_ ?_
 ·
  refine WpOps.pn 1 rfl trivial ?_
  refine WpOps.split 7 rfl (fun hb => ?_) (fun hb => ?_)
  ·
   replace g_2 := Sh.ite_pos hb g_2
   refine WpOps.pn 6 rfl trivial ?_
   refine WpOps.nil ?_
   obtain rfl := Sh.some_inj g_2
   exact ⟨rfl, rfl⟩
  ·
   replace g_2 := Sh.ite_neg hb g_2
   refine WpOps.pn 2 rfl trivial ?_
   refine WpOps.consE (v := (AV.rows 6 (List.map cGTok m_1.body))) rfl rfl (Exact.load rfl rfl (hH.cell (i := 0) rfl) rfl rfl) ?_
   refine WpOps.pn 1 rfl trivial ?_
   refine WpOps.at 11 (len_map _ _) ?_
   refine WpOps.pn 2 rfl trivial ?_
   refine WpOps.nil ?_
   obtain rfl := Sh.some_inj g_2
   exact ⟨rfl, rfl⟩
 intro env
 obtain ⟨b_2, g_3, h⟩ := Sh.bind_some h
 refine WpOps.cutB 9 22 (bA b_2) rfl ?_ ?_
 ·
  refine WpOps.pn 1 rfl trivial ?_
  refine WpOps.split 14 rfl (fun hb => ?_) (fun hb => ?_)
  ·
   replace g_3 := Sh.ite_pos hb g_3
   refine WpOps.pn 8 rfl trivial ?_
   refine WpOps.nil ?_
   obtain rfl := Sh.some_inj g_3
   exact ⟨rfl, rfl⟩
  ·
   replace g_3 := Sh.ite_neg hb g_3
   refine WpOps.pn 1 rfl trivial ?_
   refine WpOps.consE (v := (AV.rows 6 (List.map cGTok m_1.body))) rfl rfl (Exact.load rfl rfl (hH.cell (i := 0) rfl) rfl rfl) ?_
   obtain ⟨y_1, hy_1, g_3⟩ := Sh.bind_some g_3
   refine WpOps.pn 1 rfl trivial ?_
   refine WpOps.consE (v := (.rop (cGTok y_1))) rfl rfl (Exact.ixr cGTok hy_1 rfl rfl rfl rfl (by kernel_rfl) (by decide)) ?_
   refine WpOps.pn 1 rfl trivial ?_
   refine WpOps.consE (v := (iA y_1.kind)) rfl rfl (Exact.load_rop rfl rfl rfl) ?_
   refine WpOps.pn 2 rfl trivial ?_
   refine WpOps.nil ?_
   obtain rfl := Sh.some_inj g_3
   exact ⟨rfl, rfl⟩
 intro env
 obtain ⟨b_3, g_4, h⟩ := Sh.bind_some h
 refine WpOps.cutB 5 27 (bA b_3) rfl ?_ ?_
 ·
  refine WpOps.pn 1 rfl trivial ?_
  refine WpOps.split 23 rfl (fun hb => ?_) (fun hb => ?_)
  ·
   replace g_4 := Sh.ite_pos hb g_4
   refine WpOps.pn 4 rfl trivial ?_
   refine WpOps.nil ?_
   obtain rfl := Sh.some_inj g_4
   exact ⟨rfl, rfl⟩
  ·
   replace g_4 := Sh.ite_neg hb g_4
   refine WpOps.pn 1 rfl trivial ?_
   refine WpOps.consE (v := (bA m_1.func)) rfl rfl (Exact.load rfl rfl (hH.cell (i := 0) rfl) rfl rfl) ?_
   refine WpOps.pn 2 rfl trivial ?_
   refine WpOps.nil ?_
   obtain rfl := Sh.some_inj g_4
   exact ⟨rfl, rfl⟩
 intro env
 refine WpOps.nil ?_
 refine WpC.condB rfl (fun hb => ?_) (fun hb => ?_)
 ·
  replace h := Sh.ite_pos hb h
  refine WpC.seqR ?_
  refine WpOps.pn 1 rfl trivial ?_
  refine WpOps.nil ?_
  refine WpC.lose (i := 0) hH rfl (fun H' hH => ?_)
  obtain rfl := Sh.some_inj h
  refine WpC.ret ?_
  exact VEnds.ret1 rfl rfl ⟨rfl, hH⟩
 ·
  replace h := Sh.ite_neg hb h
  refine WpC.skipD ?_
  refine ⟨_, Heap.le_refl _, ?_⟩
  refine WpC.seqD [.S, .I, .S] [0, 1, 2, 3, 4, 5, 6, 7, 8] (by kernel_rfl) (by kernel_rfl) ?_
  refine WpPi.consS (v := (AV.agg (cGMacro m_1))) rfl rfl rfl rfl (Exact.load rfl rfl (hH.cell (i := 0) rfl) rfl rfl) ?_
  refine WpPi.pn 1 rfl trivial ?_
  refine WpPi.consS (v := (AV.rows 6 (List.map cGTok m_1.body))) rfl rfl rfl rfl (Exact.load rfl rfl (hH.cell (i := 0) rfl) rfl rfl) ?_
  obtain ⟨y_2, hy_2, h⟩ := Sh.bind_some h
  refine WpPi.pn 1 rfl trivial ?_
  refine WpPi.consI (v := (.rop (cGTok y_2))) rfl rfl rfl rfl (fun _ => Exact.ixr cGTok hy_2 rfl rfl rfl rfl (by kernel_rfl) (by decide)) ?_
  refine WpPi.pn 1 rfl trivial ?_
  refine WpPi.consI (v := (sA y_2.text)) rfl rfl rfl rfl (fun _ => Exact.load_rop rfl rfl rfl) ?_
  obtain ⟨r_1, hr_1, h⟩ := Sh.bind_some h
  refine WpPi.consI (v := (iA r_1)) rfl rfl rfl rfl (fun _ => Exact.call rfl rfl rfl (w_macro_Param hr_1)) ?_
  refine WpPi.pn 1 rfl trivial ?_
  refine WpPi.nil ?_
  refine WpC.lose (i := 0) hH rfl (fun H' hH => ?_)
  obtain rfl := Sh.some_inj h
  refine WpC.ret ?_
  exact VEnds.ret1 rfl rfl ⟨rfl, hH⟩
theorem w_expand_pastes_c1 {H0 : Heap} {k_1 : Int} {t1_1 : GMacro} {r : Bool} (h : expand_pastes_c1 k_1 t1_1 = some r) : TCall Tryz.prog 203 [(iA k_1), (.rop (cGMacro t1_1))] H0 (fun v H' => v = (bA r) ∧ H' = H0) noE := by
 refine id (TCall.body Tryz.func203 rfl rfl ?_)
 have hH : Holds H0 [] H0 := rfl
 refine WpC.seqR ?_
 refine WpOps.pn 1 rfl trivial ?_
 refine WpOps.nil ?_
 refine WpC.seqR ?_
 refine WpOps.pn 2 rfl trivial ?_
 obtain ⟨b_1, g_1, h⟩ := Sh.bind_some h
 refine WpOps.cutB 7 12 (bA b_1) rfl ?_ ?_
 ·
  refine WpOps.pn 1 rfl trivial ?_
  refine WpOps.split 6 rfl (fun hb => ?_) (fun hb => ?_)
  ·
   replace g_1 := Sh.ite_pos hb g_1
   refine WpOps.pn 2 rfl trivial ?_
   refine WpOps.consE (v := (AV.rows 6 (List.map cGTok t1_1.body))) rfl rfl (Exact.load_rop rfl rfl rfl) ?_
   refine WpOps.pn 1 rfl trivial ?_
   refine WpOps.at 10 (len_map _ _) ?_
   refine WpOps.pn 2 rfl trivial ?_
   refine WpOps.nil ?_
   obtain rfl := Sh.some_inj g_1
   exact ⟨rfl, rfl⟩
  ·
   replace g_1 := Sh.ite_neg hb g_1
   refine WpOps.pn 6 rfl trivial ?_
   refine WpOps.nil ?_
   obtain rfl := Sh.some_inj g_1
   exact ⟨rfl, rfl⟩
 intro env
 obtain ⟨b_2, g_2, h⟩ := Sh.bind_some h
 refine WpOps.cutB 9 21 (bA b_2) rfl ?_ ?_
 ·
  refine WpOps.pn 1 rfl trivial ?_
  refine WpOps.split 13 rfl (fun hb => ?_) (fun hb => ?_)
  ·
   replace g_2 := Sh.ite_pos hb g_2
   refine WpOps.pn 1 rfl trivial ?_
   refine WpOps.consE (v := (AV.rows 6 (List.map cGTok t1_1.body))) rfl rfl (Exact.load_rop rfl rfl rfl) ?_
   obtain ⟨y_1, hy_1, g_2⟩ := Sh.bind_some g_2
   refine WpOps.pn 1 rfl trivial ?_
   refine WpOps.consE (v := (.rop (cGTok y_1))) rfl rfl (Exact.ixr cGTok hy_1 rfl rfl rfl rfl (by kernel_rfl) (by decide)) ?_
   refine WpOps.pn 1 rfl trivial ?_
   refine WpOps.consE (v := (iA y_1.kind)) rfl rfl (Exact.load_rop rfl rfl rfl) ?_
   refine WpOps.pn 2 rfl trivial ?_
   refine WpOps.nil ?_
   obtain rfl := Sh.some_inj g_2
   exact ⟨rfl, rfl⟩
  ·
   replace g_2 := Sh.ite_neg hb g_2
   refine WpOps.pn 8 rfl trivial ?_
   refine WpOps.nil ?_
   obtain rfl := Sh.some_inj g_2
   exact ⟨rfl, rfl⟩
 intro env
 obtain ⟨b_3, g_3, h⟩ := Sh.bind_some h
 refine WpOps.cutB 9 30 (bA b_3) rfl ?_ ?_
 ·
  refine WpOps.pn 1 rfl trivial ?_
  refine WpOps.split 22 rfl (fun hb => ?_) (fun hb => ?_)
  ·
   replace g_3 := Sh.ite_pos hb g_3
   refine WpOps.pn 1 rfl trivial ?_
   refine WpOps.consE (v := (AV.rows 6 (List.map cGTok t1_1.body))) rfl rfl (Exact.load_rop rfl rfl rfl) ?_
   obtain ⟨y_2, hy_2, g_3⟩ := Sh.bind_some g_3
   refine WpOps.pn 1 rfl trivial ?_
   refine WpOps.consE (v := (.rop (cGTok y_2))) rfl rfl (Exact.ixr cGTok hy_2 rfl rfl rfl rfl (by kernel_rfl) (by decide)) ?_
   refine WpOps.pn 1 rfl trivial ?_
   refine WpOps.consE (v := (sA y_2.text)) rfl rfl (Exact.load_rop rfl rfl rfl) ?_
   refine WpOps.pn 2 rfl trivial ?_
   refine WpOps.nil ?_
   obtain rfl := Sh.some_inj g_3
   exact ⟨rfl, rfl⟩
  ·
   replace g_3 := Sh.ite_neg hb g_3
   refine WpOps.pn 8 rfl trivial ?_
   refine WpOps.nil ?_
   obtain rfl := Sh.some_inj g_3
   exact ⟨rfl, rfl⟩
 intro env
 refine WpOps.pn 1 rfl trivial ?_
 refine WpOps.nil ?_
 obtain rfl := Sh.some_inj h
 refine WpC.ret ?_
 exact VEnds.ret1 rfl rfl ⟨rfl, hH⟩
theorem w_expand_pastes {H0 : Heap} {m_1 : GMacro} {i_1 : Int} {r : Bool} (h : expand_pastes m_1 i_1 = some r) : TCall Tryz.prog 195 [(AV.agg (cGMacro m_1)), (iA i_1)] H0 (fun v H' => v = (bA r) ∧ H' = H0) noE := by
 refine id (TCall.body Tryz.func195 rfl rfl ?_)
 have hH : Holds H0 [] H0 := rfl
 refine WpC.seqR ?_
 refine WpOps.consG rfl rfl (WpO.boxT (v := (AV.agg (cGMacro m_1))) rfl rfl hH fun g_1 H' hH => ?_)
 refine WpOps.pn 1 rfl trivial ?_
 refine WpOps.nil ?_
 refine WpC.ice (t := 2) (i := 0) hH rfl rfl (fun H' hH => ?_)
 refine WpC.seqR ?_
 refine WpOps.pn 2 rfl trivial ?_
 refine WpOps.nil ?_
 refine WpC.seqR ?_
 obtain ⟨c_1, h⟩ := Sh.chk_some h
 obtain ⟨r_1, hr_1, h⟩ := Sh.bind_some h
 refine WpOps.pn 3 rfl c_1 ?_
 refine WpOps.consE (v := (bA r_1)) rfl rfl (Exact.call_clo rfl rfl rfl rfl (w_expand_pastes_c1 hr_1)) ?_
 obtain ⟨b_1, g_2, h⟩ := Sh.bind_some h
 refine WpOps.cutB 6 16 (bA b_1) rfl ?_ ?_
 ·
  refine WpOps.pn 1 rfl trivial ?_
  refine WpOps.split 11 rfl (fun hb => ?_) (fun hb => ?_)
  ·
   replace g_2 := Sh.ite_pos hb g_2
   refine WpOps.pn 5 rfl trivial ?_
   refine WpOps.nil ?_
   obtain rfl := Sh.some_inj g_2
   exact ⟨rfl, rfl⟩
  ·
   replace g_2 := Sh.ite_neg hb g_2
   obtain ⟨c_2, g_2⟩ := Sh.chk_some g_2
   obtain ⟨r_2, hr_2, g_2⟩ := Sh.bind_some g_2
   refine WpOps.pn 3 rfl c_2 ?_
   refine WpOps.consE (v := (bA r_2)) rfl rfl (Exact.call_clo rfl rfl rfl rfl (w_expand_pastes_c1 hr_2)) ?_
   refine WpOps.pn 1 rfl trivial ?_
   refine WpOps.nil ?_
   obtain rfl := Sh.some_inj g_2
   exact ⟨rfl, rfl⟩
 intro env
 refine WpOps.pn 1 rfl trivial ?_
 refine WpOps.nil ?_
 obtain rfl := Sh.some_inj h
 refine WpC.ret ?_
 exact VEnds.ret1 rfl rfl ⟨rfl, hH⟩
theorem w_expand_quotes {H0 : Heap} {m_1 : GMacro} {i_1 : Int} {r : Bool} (h : expand_quotes m_1 i_1 = some r) : TCall Tryz.prog 196 [(AV.agg (cGMacro m_1)), (iA i_1)] H0 (fun v H' => v = (bA r) ∧ H' = H0) noE := by
 refine id (TCall.body Tryz.func196 rfl rfl ?_)
 have hH : Holds H0 [] H0 := rfl
 refine WpC.seqR ?_
 refine WpOps.consG rfl rfl (WpO.boxT (v := (AV.agg (cGMacro m_1))) rfl rfl hH fun g_1 H' hH => ?_)
 refine WpOps.pn 1 rfl trivial ?_
 refine WpOps.nil ?_
 refine WpC.seqR ?_
 refine WpOps.pn 1 rfl trivial ?_
 refine WpOps.consE (v := (bA m_1.func)) rfl rfl (Exact.load rfl rfl (hH.cell (i := 0) rfl) rfl rfl) ?_
 obtain ⟨b_1, g_2, h⟩ := Sh.bind_some h
 refine WpOps.cutB 4 10 (bA b_1) rfl ?_ ?_
 ·
  refine WpOps.pn 1 rfl trivial ?_
  refine WpOps.split 7 rfl (fun hb => ?_) (fun hb => ?_)
  ·
   replace g_2 := Sh.ite_pos hb g_2
   refine WpOps.pn 3 rfl trivial ?_
   refine WpOps.nil ?_
   obtain rfl := Sh.some_inj g_2
   exact ⟨rfl, rfl⟩
  ·
   replace g_2 := Sh.ite_neg hb g_2
   refine WpOps.pn 3 rfl trivial ?_
   refine WpOps.nil ?_
   obtain rfl := Sh.some_inj g_2
   exact ⟨rfl, rfl⟩
 intro env
 obtain ⟨b_2, g_3, h⟩ := Sh.bind_some h
 refine WpOps.cutB 9 19 (bA b_2) rfl ?_ ?_
 ·
  refine WpOps.pn 1 rfl trivial ?_
  refine WpOps.split 11 rfl (fun hb => ?_) (fun hb => ?_)
  ·
   replace g_3 := Sh.ite_pos hb g_3
   refine WpOps.pn 1 rfl trivial ?_
   refine WpOps.consE (v := (AV.rows 6 (List.map cGTok m_1.body))) rfl rfl (Exact.load rfl rfl (hH.cell (i := 0) rfl) rfl rfl) ?_
   obtain ⟨y_1, hy_1, g_3⟩ := Sh.bind_some g_3
   refine WpOps.pn 1 rfl trivial ?_
   refine WpOps.consE (v := (.rop (cGTok y_1))) rfl rfl (Exact.ixr cGTok hy_1 rfl rfl rfl rfl (by kernel_rfl) (by decide)) ?_
   refine WpOps.pn 1 rfl trivial ?_
   refine WpOps.consE (v := (iA y_1.kind)) rfl rfl (Exact.load_rop rfl rfl rfl) ?_
   refine WpOps.pn 2 rfl trivial ?_
   refine WpOps.nil ?_
   obtain rfl := Sh.some_inj g_3
   exact ⟨rfl, rfl⟩
  ·
   replace g_3 := Sh.ite_neg hb g_3
   refine WpOps.pn 8 rfl trivial ?_
   refine WpOps.nil ?_
   obtain rfl := Sh.some_inj g_3
   exact ⟨rfl, rfl⟩
 intro env
 obtain ⟨b_3, g_4, h⟩ := Sh.bind_some h
 refine WpOps.cutB 9 28 (bA b_3) rfl ?_ ?_
 ·
  refine WpOps.pn 1 rfl trivial ?_
  refine WpOps.split 20 rfl (fun hb => ?_) (fun hb => ?_)
  ·
   replace g_4 := Sh.ite_pos hb g_4
   refine WpOps.pn 1 rfl trivial ?_
   refine WpOps.consE (v := (AV.rows 6 (List.map cGTok m_1.body))) rfl rfl (Exact.load rfl rfl (hH.cell (i := 0) rfl) rfl rfl) ?_
   obtain ⟨y_2, hy_2, g_4⟩ := Sh.bind_some g_4
   refine WpOps.pn 1 rfl trivial ?_
   refine WpOps.consE (v := (.rop (cGTok y_2))) rfl rfl (Exact.ixr cGTok hy_2 rfl rfl rfl rfl (by kernel_rfl) (by decide)) ?_
   refine WpOps.pn 1 rfl trivial ?_
   refine WpOps.consE (v := (sA y_2.text)) rfl rfl (Exact.load_rop rfl rfl rfl) ?_
   refine WpOps.pn 2 rfl trivial ?_
   refine WpOps.nil ?_
   obtain rfl := Sh.some_inj g_4
   exact ⟨rfl, rfl⟩
  ·
   replace g_4 := Sh.ite_neg hb g_4
   refine WpOps.pn 8 rfl trivial ?_
   refine WpOps.nil ?_
   obtain rfl := Sh.some_inj g_4
   exact ⟨rfl, rfl⟩
 intro env
 obtain ⟨b_4, g_5, h⟩ := Sh.bind_some h
 refine WpOps.cutB 7 35 (bA b_4) rfl ?_ ?_
 ·
  refine WpOps.pn 1 rfl trivial ?_
  refine WpOps.split 29 rfl (fun hb => ?_) (fun hb => ?_)
  ·
   replace g_5 := Sh.ite_pos hb g_5
   refine WpOps.consE (v := (AV.agg (cGMacro m_1))) rfl rfl (Exact.load rfl rfl (hH.cell (i := 0) rfl) rfl rfl) ?_
   obtain ⟨c_1, g_5⟩ := Sh.chk_some g_5
   obtain ⟨r_1, hr_1, g_5⟩ := Sh.bind_some g_5
   refine WpOps.pn 2 rfl c_1 ?_
   refine WpOps.consE (v := (iA r_1)) rfl rfl (Exact.call rfl rfl rfl (w_expand_place hr_1)) ?_
   refine WpOps.pn 2 rfl trivial ?_
   refine WpOps.nil ?_
   obtain rfl := Sh.some_inj g_5
   exact ⟨rfl, rfl⟩
  ·
   replace g_5 := Sh.ite_neg hb g_5
   refine WpOps.pn 6 rfl trivial ?_
   refine WpOps.nil ?_
   obtain rfl := Sh.some_inj g_5
   exact ⟨rfl, rfl⟩
 intro env
 refine WpOps.pn 1 rfl trivial ?_
 refine WpOps.nil ?_
 refine WpC.lose (i := 0) hH rfl (fun H' hH => ?_)
 obtain rfl := Sh.some_inj h
 refine WpC.ret ?_
 exact VEnds.ret1 rfl rfl ⟨rfl, hH⟩
theorem w_expand_work_expanded {H0 H : Heap} (hG : Glob H0) {g_1 : Nat} {gm_1 : Nat} {w_1 : GExpand_work} {m_1 : GMacro} {args_1 : List (List GExpand_token)} {r : (List (List GExpand_token) × Int) × GExpand_work} (h : expand_work_expanded w_1 m_1 args_1 = some r) (hH : Holds H0 [.cell g_1 224 [.lit (.map (some gm_1)), (iA w_1.steps)], .many (mapP gm_1 w_1.ms)] H) : TCall Tryz.prog 186 [(.lit (.pointer (some ⟨g_1, 0, none⟩))), (AV.agg (cGMacro m_1)), (AV.rows 1 (List.map (cL 9 cGExpand_token) args_1))] H (fun v H' => ∃ b : Unit, v = (.tup [(AV.rows 1 (List.map (cL 9 cGExpand_token) r.1.1)), (iA r.1.2)]) ∧ Holds H0 [.cell g_1 224 [.lit (.map (some gm_1)), (iA r.2.steps)], .many (mapP gm_1 r.2.ms)] H') noE := by
 refine id (TCall.body Tryz.func186 rfl rfl ?_)
 refine WpC.seqR ?_
 refine WpOps.consG rfl rfl (WpO.boxT (v := (AV.agg (cGMacro m_1))) rfl rfl hH fun g_2 H' hH => ?_)
 refine WpOps.pn 2 rfl trivial ?_
 refine WpOps.nil ?_
 refine WpC.seqR ?_
 refine WpOps.pn 2 rfl trivial ?_
 refine WpOps.at 15 (len_map _ _) ?_
 obtain ⟨c_1, h⟩ := Sh.chk_some h
 refine WpOps.consG rfl rfl (WpO.makeU (cL 9 cGExpand_token) (z := ([] : List GExpand_token)) (n := (args_1.length : Int)) c_1 (.cons (Sub.nil 9) .nil) rfl rfl rfl hH rfl rfl rfl rfl (by decide) fun g_3 cp_1 H' hH => ?_)
 refine WpOps.pn 1 rfl trivial ?_
 refine WpOps.nil ?_
 refine WpC.seq ?_
 refine WpC.seqR ?_
 refine WpOps.pn 2 rfl trivial ?_
 refine WpOps.at 18 (len_map _ _) ?_
 refine WpOps.pn 1 rfl trivial ?_
 refine WpOps.nil ?_
 refine WpC.blockK (fun x : (List (List GExpand_token) × GExpand_work) × ((Option (Nat × Nat))) => [(8, (.own (List.map (cL 9 cGExpand_token) x.1.1).length x.2))]) (fun x H' => expand_work_expanded_j1 x.1 = some r ∧ Holds H0 [.own 228 1 x.2 (List.map (cL 9 cGExpand_token) x.1.1), .cell g_1 224 [.lit (.map (some gm_1)), (iA x.1.2.steps)], .many (mapP gm_1 x.1.2.ms)] H') ?_ ?_
 ·
  obtain ⟨o_1, ho_1, hk_1⟩ := Sh.bind_some h
  refine WpC.loopS (expand_work_expanded_b2 m_1 args_1) (fun (s : Int × List (List GExpand_token) × GExpand_work) (a : (Option (Nat × Nat))) => [(0, (.lit (.pointer (some ⟨g_1, 0, none⟩)))), (2, (AV.rows 1 (List.map (cL 9 cGExpand_token) args_1))), (4, (.lit (.pointer (some ⟨g_2, 0, none⟩)))), (8, (.own (List.map (cL 9 cGExpand_token) s.2.1).length a)), (18, (iA (args_1.length : Int))), (19, (iA s.1))]) (fun (s : Int × List (List GExpand_token) × GExpand_work) (a : (Option (Nat × Nat))) H' => Holds H0 [.own 228 1 a (List.map (cL 9 cGExpand_token) s.2.1), .cell g_2 69 (cGMacro m_1), .cell g_1 224 [.lit (.map (some gm_1)), (iA s.2.2.steps)], .many (mapP gm_1 s.2.2.ms)] H') o_1 ((0 : Int), (List.replicate ((args_1.length : Int)).toNat ([] : List GExpand_token)), w_1) (some (g_3, cp_1)) ho_1 ⟨rfl, rfl, rfl, rfl, rfl, rfl, trivial⟩ hH ?_
  rintro ⟨t19_1, out_1, w_2⟩ p_1 st_1 env H' h hd_1 hH
  refine WpC.seqR ?_
  refine WpOps.pn 1 rfl trivial ?_
  refine WpOps.nil ?_
  refine WpC.seq ?_
  refine WpC.condB rfl (fun hb => ?_) (fun hb => ?_)
  ·
   replace h := Sh.ite_pos hb h
   refine WpC.skipD ?_
   refine ⟨_, Heap.le_refl _, ?_⟩
   refine WpC.seq ?_
   refine WpC.block ?_
   refine WpC.seqR ?_
   refine WpOps.pn 2 rfl trivial ?_
   refine WpOps.nil ?_
   refine WpC.seqR ?_
   refine WpOps.pn 1 rfl trivial ?_
   refine WpOps.nil ?_
   refine WpC.seq ?_
   refine WpC.seqR ?_
   refine WpOps.pn 1 rfl trivial ?_
   refine WpOps.consE (v := (AV.rows 6 (List.map cGTok m_1.body))) rfl rfl (Exact.load rfl rfl (hH.cell (i := 1) rfl) rfl rfl) ?_
   refine WpOps.pn 1 rfl trivial ?_
   refine WpOps.at 24 (len_map _ _) ?_
   refine WpOps.pn 1 rfl trivial ?_
   refine WpOps.nil ?_
   refine WpC.blockK (fun x : (Bool) × (Unit) => [(0, (.lit (.pointer (some ⟨g_1, 0, none⟩)))), (2, (AV.rows 1 (List.map (cL 9 cGExpand_token) args_1))), (4, (.lit (.pointer (some ⟨g_2, 0, none⟩)))), (8, (.own (List.map (cL 9 cGExpand_token) out_1).length p_1)), (9, (iA t19_1)), (10, (bA x.1)), (18, (iA (args_1.length : Int))), (19, (iA t19_1))]) (fun x H' => (expand_work_expanded_j3 t19_1 out_1 w_2) x.1 = some st_1 ∧ Holds H0 [.own 228 1 p_1 (List.map (cL 9 cGExpand_token) out_1), .cell g_2 69 (cGMacro m_1), .cell g_1 224 [.lit (.map (some gm_1)), (iA w_2.steps)], .many (mapP gm_1 w_2.ms)] H') ?_ ?_
   ·
    obtain ⟨o_2, ho_2, hk_2⟩ := Sh.bind_some h
    refine WpC.loopS (expand_work_expanded_b4 m_1 t19_1) (fun (s : Bool × Int) (a : Unit) => [(0, (.lit (.pointer (some ⟨g_1, 0, none⟩)))), (2, (AV.rows 1 (List.map (cL 9 cGExpand_token) args_1))), (4, (.lit (.pointer (some ⟨g_2, 0, none⟩)))), (8, (.own (List.map (cL 9 cGExpand_token) out_1).length p_1)), (9, (iA t19_1)), (10, (bA s.1)), (18, (iA (args_1.length : Int))), (19, (iA t19_1)), (24, (iA (m_1.body.length : Int))), (25, (iA s.2))]) (fun (s : Bool × Int) (a : Unit) H' => Holds H0 [.own 228 1 p_1 (List.map (cL 9 cGExpand_token) out_1), .cell g_2 69 (cGMacro m_1), .cell g_1 224 [.lit (.map (some gm_1)), (iA w_2.steps)], .many (mapP gm_1 w_2.ms)] H') o_2 (false, (0 : Int)) () ho_2 ⟨rfl, rfl, rfl, rfl, rfl, rfl, rfl, rfl, rfl, rfl, trivial⟩ hH ?_
    rintro ⟨needed_1, t25_1⟩ _ st_2 env H' h hd_2 hH
    refine WpC.seqR ?_
    refine WpOps.pn 1 rfl trivial ?_
    refine WpOps.nil ?_
    refine WpC.seq ?_
    refine WpC.condB rfl (fun hb => ?_) (fun hb => ?_)
    ·
     replace h := Sh.ite_pos hb h
     refine WpC.skipD ?_
     refine ⟨_, Heap.le_refl _, ?_⟩
     refine WpC.seq ?_
     refine WpC.block ?_
     refine WpC.seqR ?_
     refine WpOps.pn 2 rfl trivial ?_
     refine WpOps.nil ?_
     refine WpC.regionD ?_
     refine WpOps.pn 1 rfl trivial ?_
     obtain ⟨b_1, g_4, h⟩ := Sh.bind_some h
     refine WpOps.cutB 20 48 (bA b_1) rfl ?_ ?_
     ·
      refine WpOps.pn 1 rfl trivial ?_
      refine WpOps.split 29 rfl (fun hb => ?_) (fun hb => ?_)
      ·
       replace g_4 := Sh.ite_pos hb g_4
       refine WpOps.pn 19 rfl trivial ?_
       refine WpOps.nil ?_
       obtain rfl := Sh.some_inj g_4
       exact ⟨rfl, rfl⟩
      ·
       replace g_4 := Sh.ite_neg hb g_4
       refine WpOps.consE (v := (AV.agg (cGMacro m_1))) rfl rfl (Exact.load rfl rfl (hH.cell (i := 1) rfl) rfl rfl) ?_
       obtain ⟨r_1, hr_1, g_4⟩ := Sh.bind_some g_4
       refine WpOps.pn 1 rfl trivial ?_
       refine WpOps.consE (v := (iA r_1)) rfl rfl (Exact.call rfl rfl rfl (w_expand_place hr_1)) ?_
       refine WpOps.pn 2 rfl trivial ?_
       obtain ⟨b_2, g_5, g_4⟩ := Sh.bind_some g_4
       refine WpOps.cutB 6 40 (bA b_2) rfl ?_ ?_
       ·
        refine WpOps.pn 1 rfl trivial ?_
        refine WpOps.split 35 rfl (fun hb => ?_) (fun hb => ?_)
        ·
         replace g_5 := Sh.ite_pos hb g_5
         refine WpOps.consE (v := (AV.agg (cGMacro m_1))) rfl rfl (Exact.load rfl rfl (hH.cell (i := 1) rfl) rfl rfl) ?_
         obtain ⟨r_2, hr_2, g_5⟩ := Sh.bind_some g_5
         refine WpOps.pn 1 rfl trivial ?_
         refine WpOps.consE (v := (bA r_2)) rfl rfl (Exact.call rfl rfl rfl (w_expand_pastes hr_2)) ?_
         refine WpOps.pn 2 rfl trivial ?_
         refine WpOps.nil ?_
         obtain rfl := Sh.some_inj g_5
         exact ⟨rfl, rfl⟩
        ·
         replace g_5 := Sh.ite_neg hb g_5
         refine WpOps.pn 5 rfl trivial ?_
         refine WpOps.nil ?_
         obtain rfl := Sh.some_inj g_5
         exact ⟨rfl, rfl⟩
       intro env
       obtain ⟨b_3, g_6, g_4⟩ := Sh.bind_some g_4
       refine WpOps.cutB 7 47 (bA b_3) rfl ?_ ?_
       ·
        refine WpOps.pn 1 rfl trivial ?_
        refine WpOps.split 41 rfl (fun hb => ?_) (fun hb => ?_)
        ·
         replace g_6 := Sh.ite_pos hb g_6
         refine WpOps.consE (v := (AV.agg (cGMacro m_1))) rfl rfl (Exact.load rfl rfl (hH.cell (i := 1) rfl) rfl rfl) ?_
         obtain ⟨c_2, g_6⟩ := Sh.chk_some g_6
         obtain ⟨r_3, hr_3, g_6⟩ := Sh.bind_some g_6
         refine WpOps.pn 2 rfl c_2 ?_
         refine WpOps.consE (v := (bA r_3)) rfl rfl (Exact.call rfl rfl rfl (w_expand_quotes hr_3)) ?_
         refine WpOps.pn 2 rfl trivial ?_
         refine WpOps.nil ?_
         obtain rfl := Sh.some_inj g_6
         exact ⟨rfl, rfl⟩
        ·
         replace g_6 := Sh.ite_neg hb g_6
         refine WpOps.pn 6 rfl trivial ?_
         refine WpOps.nil ?_
         obtain rfl := Sh.some_inj g_6
         exact ⟨rfl, rfl⟩
       intro env
       refine WpOps.pn 1 rfl trivial ?_
       refine WpOps.nil ?_
       obtain rfl := Sh.some_inj g_4
       exact ⟨rfl, rfl⟩
     intro env
     refine WpOps.pn 1 rfl trivial ?_
     refine WpOps.nil ?_
     refine ⟨_, Heap.le_refl _, ?_⟩
     refine WpC.regionD ?_
     obtain ⟨c_3, h⟩ := Sh.chk_some h
     refine WpOps.pn 2 rfl c_3 ?_
     refine WpOps.nil ?_
     obtain rfl := Sh.some_inj h
     exact ⟨_, (Heap.le_refl _), (b_1, (t25_1 + (1 : Int))), (), rfl, ⟨rfl, rfl, rfl, rfl, rfl, rfl, rfl, rfl, rfl, rfl, trivial⟩, hH⟩
    ·
     replace h := Sh.ite_neg hb h
     obtain rfl := Sh.some_inj h
     have e := hd_2 _ rfl
     subst e
     refine WpC.exit ?_
     exact ⟨(needed_1, ()), ⟨rfl, rfl, rfl, rfl, rfl, rfl, rfl, rfl, trivial⟩, hk_2, hH⟩
   ·
    rintro ⟨needed_2, _⟩ env H' ⟨h, hH⟩
    try dsimp only at h
    refine ⟨_, Heap.le_refl _, ?_⟩
    refine WpC.seq ?_
    refine WpC.seqR ?_
    refine WpOps.pn 2 rfl trivial ?_
    refine WpOps.nil ?_
    refine WpC.condB rfl (fun hb => ?_) (fun hb => ?_)
    ·
     replace h := Sh.ite_pos hb h
     refine WpC.exitD ?_
     refine ⟨_, Heap.le_refl _, ?_⟩
     refine WpC.regionD ?_
     obtain ⟨c_4, h⟩ := Sh.chk_some h
     refine WpOps.pn 2 rfl c_4 ?_
     refine WpOps.nil ?_
     obtain rfl := Sh.some_inj h
     exact ⟨_, (Heap.le_refl _), ((t19_1 + (1 : Int)), out_1, w_2), p_1, rfl, ⟨rfl, rfl, rfl, rfl, rfl, rfl, trivial⟩, hH⟩
    ·
     replace h := Sh.ite_neg hb h
     refine WpC.skipD ?_
     refine ⟨_, Heap.le_refl _, ?_⟩
     cases h
  ·
   replace h := Sh.ite_neg hb h
   refine WpC.lose (i := 1) hH rfl (fun H' hH => ?_)
   obtain rfl := Sh.some_inj h
   have e := hd_1 _ rfl
   subst e
   refine WpC.exit ?_
   exact ⟨((out_1, w_2), p_1), ⟨rfl, trivial⟩, hk_1, hH⟩
 ·
  rintro ⟨⟨out_2, w_6⟩, p_2⟩ env H' ⟨h, hH⟩
  try dsimp only at h
  refine ⟨_, Heap.le_refl _, ?_⟩
  refine WpC.seqR ?_
  refine WpOps.pn 3 rfl trivial ?_
  refine WpOps.nil ?_
  refine WpC.freeze (t := 6) (i := 0) hH rfl rfl (fun H' hH => ?_)
  have hH : Holds H0 [.cell g_1 224 [.lit (.map (some gm_1)), (iA w_6.steps)], .many (mapP gm_1 w_6.ms)] _ := hH
  obtain rfl := Sh.some_inj h
  refine WpC.ret ?_
  exact VEnds.ret2 rfl rfl rfl ⟨(), rfl, hH⟩
end Go.Proofs.YtgmpeddopfnioaaGreatDoor
