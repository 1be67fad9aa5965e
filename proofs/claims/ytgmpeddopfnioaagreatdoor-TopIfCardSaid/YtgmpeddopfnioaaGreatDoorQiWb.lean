/-
  Part of the proof of If.
-/
import Derived.Test.YtgmpeddopfnioaaGreatDoorQiW

set_option linter.unusedVariables false
set_option linter.unusedSimpArgs false
set_option maxRecDepth 20000
set_option maxHeartbeats 8000000
namespace Go.Proofs.YtgmpeddopfnioaaGreatDoor
open Go Go.Vc Go.Sh
attribute [local irreducible] WpC WpOps WpPi WpPj WpO Exact TCall VEnds Sh.loopS DEnds
theorem w_ifexpr_Defined {H0 : Heap} {l_1 : List GTok} {names_1 : List (List UInt8)} {r : List GTok × Int} (h : ifexpr_Defined l_1 names_1 = some r) : TCall Tryz.prog 17 [(AV.rows 6 (List.map cGTok l_1)), (AV.rows 1 (List.map cS names_1))] H0 (fun v H' => v = (.tup [(AV.rows 6 (List.map cGTok r.1)), (iA r.2)]) ∧ H' = H0) noE := by
 refine id (TCall.body Tryz.func17 rfl rfl ?_)
 have hH : Holds H0 [] H0 := rfl
 refine uC ?_
 refine uE rfl rfl (vF (v := (AV.rows 6 (List.map cGTok l_1))) rfl rfl hH fun g_1 H' hH => ?_)
 refine uA 2 rfl trivial ?_
 refine WpOps.nil ?_
 refine WpC.ice (t := 2) (i := 0) hH rfl rfl (fun H' hH => ?_)
 refine uC ?_
 refine uA 2 rfl trivial ?_
 refine WpOps.nil ?_
 refine uC ?_
 refine uA 2 rfl trivial ?_
 refine WpOps.nil ?_
 refine uC ?_
 refine uA 1 rfl trivial ?_
 have hH := hH.nil 50 6
 refine WpOps.nil ?_
 refine WpC.seq ?_
 refine uC ?_
 refine uA 1 rfl trivial ?_
 refine WpOps.nil ?_
 refine vA (fun x : (List GTok) × ((Option (Nat × Nat))) => [(8, (.own (List.map cGTok x.1).length x.2))]) (fun x H' => ifexpr_Defined_j1 x.1 = some r ∧ Holds H0 [.own 50 6 x.2 (List.map cGTok x.1)] H') ?_ ?_
 ·
  obtain ⟨o_1, ho_1, hk_1⟩ := Sh.bind_some h
  refine uX (ifexpr_Defined_b2 l_1 names_1) (fun (s : Int × List GTok) (a : (Option (Nat × Nat))) => [(1, (AV.rows 1 (List.map cS names_1))), (2, (.rop [(AV.rows 6 (List.map cGTok l_1))])), (6, (.clo (.func 32) [] [(.rop [(AV.rows 6 (List.map cGTok l_1))])])), (7, (.clo (.func 33) [] [(.rop [(AV.rows 6 (List.map cGTok l_1))])])), (8, (.own (List.map cGTok s.2).length a)), (9, (iA s.1))]) (fun (s : Int × List GTok) (a : (Option (Nat × Nat))) H' => Holds H0 [.own 50 6 a (List.map cGTok s.2)] H') o_1 ((0 : Int), ([] : List GTok)) none ho_1 ⟨rfl, rfl, rfl, rfl, rfl, rfl, trivial⟩ hH ?_
  rintro ⟨i_1, out_1⟩ p_1 st_1 env H' h hd_1 hH
  refine WpC.seq ?_
  refine uC ?_
  refine uA 1 rfl trivial ?_
  refine uB (v := (AV.rows 6 (List.map cGTok l_1))) rfl rfl (uG rfl rfl rfl) ?_
  refine uA 1 rfl trivial ?_
  refine uN 17 (len_map _ _) ?_
  refine uA 1 rfl trivial ?_
  refine WpOps.nil ?_
  refine uF rfl (fun hb => ?_) (fun hb => ?_)
  ·
   replace h := Sh.ite_pos hb h
   refine uI ?_
   refine ⟨_, uD _, ?_⟩
   refine WpC.seq ?_
   refine WpC.block ?_
   refine uC ?_
   refine uB (v := (AV.rows 6 (List.map cGTok l_1))) rfl rfl (uG rfl rfl rfl) ?_
   obtain ⟨y_1, hy_1, h⟩ := Sh.bind_some h
   refine uA 1 rfl trivial ?_
   refine uB (v := (.rop (cGTok y_1))) rfl rfl (uR cGTok hy_1 rfl rfl rfl rfl (by kernel_rfl) (by decide)) ?_
   refine uB (v := (AV.agg (cGTok y_1))) rfl rfl (uG rfl rfl rfl) ?_
   refine uE rfl rfl (vC (z := cGTok (GTok.mk (0 : Int) ([] : List UInt8) (0 : Int) (0 : Int) (0 : Int) false)) rfl rfl hH fun g_2 H' hH => ?_)
   refine uE rfl rfl (uQ (cs' := (cGTok y_1)) (v := (AV.agg (cGTok y_1))) rfl rfl hH (i := 0) rfl rfl rfl rfl rfl rfl rfl fun H' hH => ?_)
   refine WpOps.nil ?_
   refine WpC.seq ?_
   refine uC ?_
   refine uA 1 rfl trivial ?_
   refine uB (v := (iA y_1.kind)) rfl rfl (Exact.load rfl rfl (hH.cell (i := 0) rfl) rfl rfl) ?_
   refine uA 1 rfl trivial ?_
   obtain ⟨b_1, g_3, h⟩ := Sh.bind_some h
   refine uM 5 32 (bA b_1) rfl ?_ ?_
   ·
    refine uA 1 rfl trivial ?_
    refine uL 28 rfl (fun hb => ?_) (fun hb => ?_)
    ·
     replace g_3 := Sh.ite_pos hb g_3
     refine uA 4 rfl trivial ?_
     refine WpOps.nil ?_
     obtain rfl := Sh.some_inj g_3
     exact ⟨rfl, rfl⟩
    ·
     replace g_3 := Sh.ite_neg hb g_3
     refine uA 1 rfl trivial ?_
     refine uB (v := (sA y_1.text)) rfl rfl (Exact.load rfl rfl (hH.cell (i := 0) rfl) rfl rfl) ?_
     refine uA 2 rfl trivial ?_
     refine WpOps.nil ?_
     obtain rfl := Sh.some_inj g_3
     exact ⟨rfl, rfl⟩
   intro env
   refine WpOps.nil ?_
   refine uF rfl (fun hb => ?_) (fun hb => ?_)
   ·
    replace h := Sh.ite_pos hb h
    refine uC ?_
    refine uA 1 rfl trivial ?_
    refine uB (v := (AV.agg (cGTok y_1))) rfl rfl (Exact.load rfl rfl (hH.cell (i := 0) rfl) rfl rfl) ?_
    refine uB (v := (AV.rows 6 (List.map cGTok ([y_1] : List GTok)))) rfl rfl (uW rfl (by kernel_rfl)) ?_
    obtain ⟨c_1, h⟩ := Sh.chk_some h
    refine uE rfl rfl (vL cGTok out_1 ([y_1] : List GTok) (i := 1) rfl ek37 hH rfl rfl rfl (.rows _) (fun y _ => one_cGTok y) (by simp) c_1 (by decide) fun p_2 H' hH => ?_)
    refine uA 1 rfl trivial ?_
    refine WpOps.nil ?_
    refine WpC.exitD ?_
    refine ⟨_, uD _, ?_⟩
    refine uJ ?_
    obtain ⟨c_2, h⟩ := Sh.chk_some h
    refine uA 3 rfl c_2 ?_
    refine WpOps.nil ?_
    obtain ⟨_, hle_1, hH⟩ := hH.lose_ (i := 0) rfl
    obtain rfl := Sh.some_inj h
    exact ⟨_, hle_1, ((i_1 + (1 : Int)), (out_1 ++ ([y_1] : List GTok))), p_2, rfl, ⟨rfl, rfl, rfl, rfl, rfl, rfl, trivial⟩, hH⟩
   ·
    replace h := Sh.ite_neg hb h
    refine uI ?_
    refine ⟨_, uD _, ?_⟩
    refine uC ?_
    obtain ⟨c_3, h⟩ := Sh.chk_some h
    obtain ⟨c_4, h⟩ := Sh.chk_some h
    refine uA 6 rfl ⟨c_4, c_3⟩ ?_
    refine WpOps.nil ?_
    refine vG (fun x : (Int × Int) × (Unit) => [(1, (AV.rows 1 (List.map cS names_1))), (2, (.rop [(AV.rows 6 (List.map cGTok l_1))])), (6, (.clo (.func 32) [] [(.rop [(AV.rows 6 (List.map cGTok l_1))])])), (7, (.clo (.func 33) [] [(.rop [(AV.rows 6 (List.map cGTok l_1))])])), (8, (.own (List.map cGTok out_1).length p_1)), (10, (.lit (.pointer (some ⟨g_2, 0, none⟩)))), (11, (iA x.1.1)), (12, (iA x.1.2))]) (fun x H' => (ifexpr_Defined_j3 l_1 names_1 out_1 y_1) x.1 = some st_1 ∧ Holds H0 [.cell g_2 50 (cGTok y_1), .own 50 6 p_1 (List.map cGTok out_1)] H') ?_ ?_
    ·
     refine uC ?_
     obtain ⟨c_5, h⟩ := Sh.chk_some h
     obtain ⟨r_1, hr_1, h⟩ := Sh.bind_some h
     refine uA 3 rfl c_5 ?_
     refine uB (v := (bA r_1)) rfl rfl (vN rfl rfl rfl rfl (w_ifexpr_Defined_c1 hr_1)) ?_
     refine WpOps.nil ?_
     refine uF rfl (fun hb => ?_) (fun hb => ?_)
     ·
      replace h := Sh.ite_pos hb h
      refine uJ ?_
      obtain ⟨c_6, h⟩ := Sh.chk_some h
      obtain ⟨c_7, h⟩ := Sh.chk_some h
      refine uA 6 rfl ⟨c_7, c_6⟩ ?_
      refine WpOps.nil ?_
      exact ⟨_, (uD _), (((i_1 + (2 : Int)), (i_1 + (3 : Int))), ()), ⟨rfl, rfl, rfl, rfl, rfl, rfl, rfl, rfl, trivial⟩, h, hH⟩
     ·
      replace h := Sh.ite_neg hb h
      refine uI ?_
      exact ⟨_, (uD _), (((i_1 + (1 : Int)), (i_1 + (1 : Int))), ()), ⟨rfl, rfl, rfl, rfl, rfl, rfl, rfl, rfl, trivial⟩, h, hH⟩
    ·
     rintro ⟨⟨at_1, last_1⟩, _⟩ env H' ⟨h, hH⟩
     try dsimp only at h
     refine WpC.seq ?_
     refine uC ?_
     obtain ⟨r_2, hr_2, h⟩ := Sh.bind_some h
     refine uA 2 rfl trivial ?_
     refine uB (v := (bA r_2)) rfl rfl (vN rfl rfl rfl rfl (w_ifexpr_Defined_c2 hr_2)) ?_
     refine uA 1 rfl trivial ?_
     obtain ⟨b_2, g_4, h⟩ := Sh.bind_some h
     refine uM 11 63 (bA b_2) rfl ?_ ?_
     ·
      refine uA 1 rfl trivial ?_
      refine uL 53 rfl (fun hb => ?_) (fun hb => ?_)
      ·
       replace g_4 := Sh.ite_pos hb g_4
       refine uA 10 rfl trivial ?_
       refine WpOps.nil ?_
       obtain rfl := Sh.some_inj g_4
       exact ⟨rfl, rfl⟩
      ·
       replace g_4 := Sh.ite_neg hb g_4
       refine uA 3 rfl trivial ?_
       obtain ⟨b_3, g_5, g_4⟩ := Sh.bind_some g_4
       refine uM 6 62 (bA b_3) rfl ?_ ?_
       ·
        refine uA 1 rfl trivial ?_
        refine uL 57 rfl (fun hb => ?_) (fun hb => ?_)
        ·
         replace g_5 := Sh.ite_pos hb g_5
         obtain ⟨r_3, hr_3, g_5⟩ := Sh.bind_some g_5
         refine uA 2 rfl trivial ?_
         refine uB (v := (bA r_3)) rfl rfl (vN rfl rfl rfl rfl (w_ifexpr_Defined_c1 hr_3)) ?_
         refine uA 2 rfl trivial ?_
         refine WpOps.nil ?_
         obtain rfl := Sh.some_inj g_5
         exact ⟨rfl, rfl⟩
        ·
         replace g_5 := Sh.ite_neg hb g_5
         refine uA 5 rfl trivial ?_
         refine WpOps.nil ?_
         obtain rfl := Sh.some_inj g_5
         exact ⟨rfl, rfl⟩
       intro env
       refine uA 1 rfl trivial ?_
       refine WpOps.nil ?_
       obtain rfl := Sh.some_inj g_4
       exact ⟨rfl, rfl⟩
     intro env
     refine WpOps.nil ?_
     refine uF rfl (fun hb => ?_) (fun hb => ?_)
     ·
      replace h := Sh.ite_pos hb h
      refine uC ?_
      refine uA 2 rfl trivial ?_
      refine WpOps.nil ?_
      refine WpC.sub (t := 4) (Sub.nil 6) ?_
      refine uP (i := 0) hH rfl (fun H' hH => ?_)
      refine uP (i := 0) hH rfl (fun H' hH => ?_)
      obtain rfl := Sh.some_inj h
      have e := hd_1 _ rfl
      subst e
      have h := hk_1
      obtain rfl := Sh.some_inj h
      refine WpC.ret ?_
      exact uU rfl rfl rfl ⟨rfl, hH⟩
     ·
      replace h := Sh.ite_neg hb h
      refine uI ?_
      refine ⟨_, uD _, ?_⟩
      refine uC ?_
      refine uA 1 rfl trivial ?_
      refine uE rfl rfl (uQ (cs' := (cGTok (GTok.mk (2 : Int) y_1.text y_1.file_ y_1.from_ y_1.to y_1.blank))) (v := (iA (2 : Int))) rfl rfl hH (i := 0) rfl rfl rfl rfl rfl rfl rfl fun H' hH => ?_)
      refine uA 1 rfl trivial ?_
      refine uE rfl rfl (uQ (cs' := (cGTok (GTok.mk (2 : Int) ([48] : List UInt8) y_1.file_ y_1.from_ y_1.to y_1.blank))) (v := (sA ([48] : List UInt8))) rfl rfl hH (i := 0) rfl rfl rfl rfl rfl rfl rfl fun H' hH => ?_)
      refine WpOps.nil ?_
      refine vG (fun x : (GTok) × (Unit) => [(1, (AV.rows 1 (List.map cS names_1))), (2, (.rop [(AV.rows 6 (List.map cGTok l_1))])), (6, (.clo (.func 32) [] [(.rop [(AV.rows 6 (List.map cGTok l_1))])])), (7, (.clo (.func 33) [] [(.rop [(AV.rows 6 (List.map cGTok l_1))])])), (8, (.own (List.map cGTok out_1).length p_1)), (10, (.lit (.pointer (some ⟨g_2, 0, none⟩)))), (12, (iA last_1))]) (fun x H' => (ifexpr_Defined_j4 out_1 last_1) x.1 = some st_1 ∧ Holds H0 [.cell g_2 50 (cGTok x.1), .own 50 6 p_1 (List.map cGTok out_1)] H') ?_ ?_
      ·
       refine uC ?_
       refine uA 1 rfl trivial ?_
       refine uB (v := (AV.rows 6 (List.map cGTok l_1))) rfl rfl (uG rfl rfl rfl) ?_
       obtain ⟨y_2, hy_2, h⟩ := Sh.bind_some h
       refine uA 1 rfl trivial ?_
       refine uB (v := (.rop (cGTok y_2))) rfl rfl (uR cGTok hy_2 rfl rfl rfl rfl (by kernel_rfl) (by decide)) ?_
       refine uA 1 rfl trivial ?_
       refine uB (v := (sA y_2.text)) rfl rfl (uG rfl rfl rfl) ?_
       obtain ⟨r_4, hr_4, h⟩ := Sh.bind_some h
       refine uB (v := (bA r_4)) rfl rfl (Exact.call rfl rfl rfl (w_slices_Contains_Lstring_string hr_4)) ?_
       refine WpOps.nil ?_
       refine uF rfl (fun hb => ?_) (fun hb => ?_)
       ·
        replace h := Sh.ite_pos hb h
        refine uJ ?_
        refine uA 1 rfl trivial ?_
        refine uE rfl rfl (uQ (cs' := (cGTok (GTok.mk (2 : Int) ([49] : List UInt8) y_1.file_ y_1.from_ y_1.to y_1.blank))) (v := (sA ([49] : List UInt8))) rfl rfl hH (i := 0) rfl rfl rfl rfl rfl rfl rfl fun H' hH => ?_)
        refine WpOps.nil ?_
        exact ⟨_, (uD _), ((GTok.mk (2 : Int) ([49] : List UInt8) y_1.file_ y_1.from_ y_1.to y_1.blank), ()), ⟨rfl, rfl, rfl, rfl, rfl, rfl, rfl, trivial⟩, h, hH⟩
       ·
        replace h := Sh.ite_neg hb h
        refine uI ?_
        exact ⟨_, (uD _), ((GTok.mk (2 : Int) ([48] : List UInt8) y_1.file_ y_1.from_ y_1.to y_1.blank), ()), ⟨rfl, rfl, rfl, rfl, rfl, rfl, rfl, trivial⟩, h, hH⟩
      ·
       rintro ⟨l_2, _⟩ env H' ⟨h, hH⟩
       try dsimp only at h
       refine uC ?_
       refine uA 1 rfl trivial ?_
       refine uB (v := (AV.agg (cGTok l_2))) rfl rfl (Exact.load rfl rfl (hH.cell (i := 0) rfl) rfl rfl) ?_
       refine uB (v := (AV.rows 6 (List.map cGTok ([l_2] : List GTok)))) rfl rfl (uW rfl (by kernel_rfl)) ?_
       obtain ⟨c_8, h⟩ := Sh.chk_some h
       refine uE rfl rfl (vL cGTok out_1 ([l_2] : List GTok) (i := 1) rfl ek37 hH rfl rfl rfl (.rows _) (fun y _ => one_cGTok y) (by simp) c_8 (by decide) fun p_3 H' hH => ?_)
       refine uA 1 rfl trivial ?_
       refine WpOps.nil ?_
       refine uJ ?_
       refine uA 2 rfl trivial ?_
       refine WpOps.nil ?_
       refine ⟨_, uD _, ?_⟩
       refine uJ ?_
       obtain ⟨c_9, h⟩ := Sh.chk_some h
       refine uA 3 rfl c_9 ?_
       refine WpOps.nil ?_
       obtain ⟨_, hle_2, hH⟩ := hH.lose_ (i := 0) rfl
       obtain rfl := Sh.some_inj h
       exact ⟨_, hle_2, ((last_1 + (1 : Int)), (out_1 ++ ([l_2] : List GTok))), p_3, rfl, ⟨rfl, rfl, rfl, rfl, rfl, rfl, trivial⟩, hH⟩
  ·
   replace h := Sh.ite_neg hb h
   obtain rfl := Sh.some_inj h
   have e := hd_1 _ rfl
   subst e
   refine WpC.exit ?_
   exact ⟨(out_1, p_1), ⟨rfl, trivial⟩, hk_1, hH⟩
 ·
  rintro ⟨out_2, p_4⟩ env H' ⟨h, hH⟩
  try dsimp only at h
  refine ⟨_, uD _, ?_⟩
  refine uC ?_
  refine uA 3 rfl trivial ?_
  refine WpOps.nil ?_
  refine vJ (t := 4) (i := 0) hH rfl rfl (fun H' hH => ?_)
  obtain rfl := Sh.some_inj h
  refine WpC.ret ?_
  exact uU rfl rfl rfl ⟨rfl, hH⟩
theorem w_slices_Clone_Lapi_Tok_api_Tok {H0 : Heap} {l : List GTok} (hc : l.length * 56 ≤ 140737488355328) : TCall Tryz.prog 36 [.rows 6 (List.map cGTok l)] H0 (fun v H' => ∃ p, v = .own (List.map cGTok l).length p ∧ Vc.Own H0 50 6 (List.map cGTok l) (List.map cGTok l).length p H') noE := by
 refine TCall.body Tryz.func36 rfl rfl ?_
 refine uC ?_
 refine uA 1 rfl trivial ?_
 refine WpOps.nil ?_
 refine WpC.seq ?_
 refine uC ?_
 refine uA 1 rfl trivial ?_
 refine uE rfl rfl (WpO.isNil (size := 6) (es := List.map cGTok l) rfl rfl rfl rfl fun b hb => ?_)
 refine WpOps.nil ?_
 refine uF rfl (fun hb2 => ?_) (fun hb2 => ?_)
 ·subst hb2
  have e0 : List.map cGTok l = [] := hb rfl
  refine uC ?_
  refine uA 1 rfl trivial ?_
  refine WpOps.nil ?_
  refine WpC.ret ?_
  exact uH rfl rfl ⟨none, by rw [e0]; rfl, by rw [e0]; exact Vc.Own.nil rfl⟩
 ·refine WpC.skip ?_
  have hH : Holds H0 [] H0 := rfl
  refine uC ?_
  refine uE rfl rfl (WpO.litT (size := 6) cGTok ([] : List GTok) rfl rfl (by kernel_rfl) rfl hH fun g H' hH => ?_)
  refine uA 1 rfl trivial ?_
  refine uE rfl rfl (WpO.pushS cGTok ([] : List GTok) l (i := 0) rfl ek37 hH rfl rfl rfl (.rows _) (fun y _ => one_cGTok y) (by simpa using hc) (by decide) fun g2 c2 H' hH => ?_)
  refine uA 1 rfl trivial ?_
  refine WpOps.nil ?_
  refine WpC.ret ?_
  obtain ⟨_, rfl, hO⟩ := hH
  exact uH rfl rfl ⟨_, rfl, hO⟩
theorem w_ifexpr_Eval_c1 {H0 : Heap} {t_1 : GTok} {r : Bool} (h : ifexpr_Eval_c1 t_1 = some r) : TCall Tryz.prog 37 [(AV.agg (cGTok t_1))] H0 (fun v H' => v = (bA r) ∧ H' = H0) noE := by
 refine id (TCall.body Tryz.func37 rfl rfl ?_)
 have hH : Holds H0 [] H0 := rfl
 refine uC ?_
 refine uE rfl rfl (vF (v := (AV.agg (cGTok t_1))) rfl rfl hH fun g_1 H' hH => ?_)
 refine uA 1 rfl trivial ?_
 refine WpOps.nil ?_
 refine uC ?_
 refine uA 1 rfl trivial ?_
 refine uB (v := (iA t_1.kind)) rfl rfl (Exact.load rfl rfl (hH.cell (i := 0) rfl) rfl rfl) ?_
 refine uA 2 rfl trivial ?_
 refine WpOps.nil ?_
 refine uP (i := 0) hH rfl (fun H' hH => ?_)
 obtain rfl := Sh.some_inj h
 refine WpC.ret ?_
 exact uH rfl rfl ⟨rfl, hH⟩
theorem w_ifexpr_reader_sign {H : Heap} {g_1 : Nat} {r_1 : GIfexpr_reader} (hg : H g_1 = some (.cells 96 (cGIfexpr_reader r_1))) {r : List UInt8} (h : ifexpr_reader_sign r_1 = some r) : TCall Tryz.prog 72 [(.lit (.pointer (some ⟨g_1, 0, none⟩)))] H (fun v H' => v = (sA r) ∧ H' = H) noE := by
 obtain ⟨H0, hH⟩ : ∃ H0, Holds H0 [.cell g_1 96 (cGIfexpr_reader r_1)] H := ⟨_, vR hg⟩
 refine TCall.held hH (id (TCall.body Tryz.func72 rfl rfl ?_))
 refine uC ?_
 refine uA 1 rfl trivial ?_
 refine WpOps.nil ?_
 refine WpC.seq ?_
 refine uC ?_
 refine uA 3 rfl trivial ?_
 refine uB (v := (AV.rows 6 (List.map cGTok r_1.l))) rfl rfl (Exact.load rfl rfl (hH.cell (i := 0) rfl) rfl rfl) ?_
 refine uA 1 rfl trivial ?_
 refine uN 7 (len_map _ _) ?_
 refine uA 1 rfl trivial ?_
 obtain ⟨b_1, g_2, h⟩ := Sh.bind_some h
 refine uM 10 18 (bA b_1) rfl ?_ ?_
 ·
  refine uA 1 rfl trivial ?_
  refine uL 9 rfl (fun hb => ?_) (fun hb => ?_)
  ·
   replace g_2 := Sh.ite_pos hb g_2
   refine uA 9 rfl trivial ?_
   refine WpOps.nil ?_
   obtain rfl := Sh.some_inj g_2
   exact ⟨rfl, rfl⟩
  ·
   replace g_2 := Sh.ite_neg hb g_2
   refine uA 3 rfl trivial ?_
   refine uB (v := (AV.rows 6 (List.map cGTok r_1.l))) rfl rfl (Exact.load rfl rfl (hH.cell (i := 0) rfl) rfl rfl) ?_
   obtain ⟨y_1, hy_1, g_2⟩ := Sh.bind_some g_2
   refine uB (v := (.rop (cGTok y_1))) rfl rfl (uR cGTok hy_1 rfl rfl rfl rfl (by kernel_rfl) (by decide)) ?_
   refine uA 1 rfl trivial ?_
   refine uB (v := (iA y_1.kind)) rfl rfl (uG rfl rfl rfl) ?_
   refine uA 2 rfl trivial ?_
   refine WpOps.nil ?_
   obtain rfl := Sh.some_inj g_2
   exact ⟨rfl, rfl⟩
 intro env
 refine WpOps.nil ?_
 refine uF rfl (fun hb => ?_) (fun hb => ?_)
 ·
  replace h := Sh.ite_pos hb h
  refine uC ?_
  refine uA 1 rfl trivial ?_
  refine WpOps.nil ?_
  obtain rfl := Sh.some_inj h
  refine WpC.ret ?_
  exact uH rfl rfl ⟨rfl, hH⟩
 ·
  replace h := Sh.ite_neg hb h
  refine uI ?_
  refine ⟨_, uD _, ?_⟩
  refine uC ?_
  refine uA 3 rfl trivial ?_
  refine uB (v := (AV.rows 6 (List.map cGTok r_1.l))) rfl rfl (Exact.load rfl rfl (hH.cell (i := 0) rfl) rfl rfl) ?_
  obtain ⟨y_2, hy_2, h⟩ := Sh.bind_some h
  refine uB (v := (.rop (cGTok y_2))) rfl rfl (uR cGTok hy_2 rfl rfl rfl rfl (by kernel_rfl) (by decide)) ?_
  refine uA 1 rfl trivial ?_
  refine uB (v := (sA y_2.text)) rfl rfl (uG rfl rfl rfl) ?_
  refine uA 1 rfl trivial ?_
  refine WpOps.nil ?_
  obtain rfl := Sh.some_inj h
  refine WpC.ret ?_
  exact uH rfl rfl ⟨rfl, hH⟩
theorem w_ifexpr_reader_needs {H0 H : Heap} {g_1 : Nat} {r_1 : GIfexpr_reader} {s_1 : List UInt8} (hH : Holds H0 [.cell g_1 96 (cGIfexpr_reader r_1)] H) {r : (Unit) × GIfexpr_reader} (h : ifexpr_reader_needs r_1 s_1 = some r) : TCall Tryz.prog 73 [(.lit (.pointer (some ⟨g_1, 0, none⟩))), (sA s_1)] H (fun v H' => v = (.tup []) ∧ Holds H0 [.cell g_1 96 (cGIfexpr_reader r.2)] H') noE := by
 refine TCall.body Tryz.func73 rfl rfl ?_
 refine WpC.seq ?_
 refine uC ?_
 obtain ⟨r_2, hr_1, h⟩ := Sh.bind_some h
 refine uA 1 rfl trivial ?_
 refine uB (v := (sA r_2)) rfl rfl (Exact.call rfl rfl rfl (w_ifexpr_reader_sign (hH.cell (i := 0) rfl) hr_1)) ?_
 refine uA 2 rfl trivial ?_
 refine WpOps.nil ?_
 refine uF rfl (fun hb => ?_) (fun hb => ?_)
 ·
  replace h := Sh.ite_pos hb h
  refine uC ?_
  refine uA 3 rfl trivial ?_
  refine uE rfl rfl (uQ (cs' := (cGIfexpr_reader (GIfexpr_reader.mk r_1.l true r_1.bad))) (v := (bA true)) rfl rfl hH (i := 0) rfl rfl rfl rfl rfl rfl rfl fun H' hH => ?_)
  refine WpOps.nil ?_
  obtain rfl := Sh.some_inj h
  refine WpC.ret ?_
  exact VEnds.ret0 rfl ⟨rfl, hH⟩
 ·
  replace h := Sh.ite_neg hb h
  refine uI ?_
  refine ⟨_, uD _, ?_⟩
  refine uJ ?_
  refine uA 4 rfl trivial ?_
  refine uB (v := (AV.rows 6 (List.map cGTok r_1.l))) rfl rfl (Exact.load rfl rfl (hH.cell (i := 0) rfl) rfl rfl) ?_
  obtain ⟨c_1, h⟩ := Sh.chk_some h
  refine uA 1 rfl (show 0 ≤ (1 : Int) ∧ True ∧ True ∧ ((1 : Int)).toNat ≤ (List.map cGTok r_1.l).length ∧ True from ⟨(by omega), trivial, trivial, (by simp only [List.length_map]; omega), trivial⟩) ?_
  refine uN 16 (rows_drop 6 cGTok r_1.l _) ?_
  refine uA 2 rfl trivial ?_
  refine uE rfl rfl (uQ (cs' := (cGIfexpr_reader (GIfexpr_reader.mk (r_1.l.drop ((1 : Int)).toNat) r_1.wrong r_1.bad))) (v := (AV.rows 6 (List.map cGTok (r_1.l.drop ((1 : Int)).toNat)))) rfl rfl hH (i := 0) rfl rfl rfl rfl rfl rfl rfl fun H' hH => ?_)
  refine WpOps.nil ?_
  refine ⟨_, (uD _), ?_⟩
  obtain rfl := Sh.some_inj h
  exact vW rfl ⟨rfl, hH⟩
theorem w_ifexpr_digit {H0 : Heap} {c_1 : UInt8} {r : Int} (h : ifexpr_digit c_1 = some r) : TCall Tryz.prog 155 [(u8A c_1)] H0 (fun v H' => v = (.lit (.int .u64 r)) ∧ H' = H0) noE := by
 refine id (TCall.body Tryz.func155 rfl rfl ?_)
 have hH : Holds H0 [] H0 := rfl
 refine uC ?_
 refine uA 1 rfl trivial ?_
 refine WpOps.nil ?_
 refine WpC.seq ?_
 refine WpC.block ?_
 refine uC ?_
 refine uA 2 rfl trivial ?_
 obtain ⟨b_1, g_1, h⟩ := Sh.bind_some h
 refine uM 4 9 (bA b_1) rfl ?_ ?_
 ·
  refine uA 1 rfl trivial ?_
  refine uL 6 rfl (fun hb => ?_) (fun hb => ?_)
  ·
   replace g_1 := Sh.ite_pos hb g_1
   refine uA 3 rfl trivial ?_
   refine WpOps.nil ?_
   obtain rfl := Sh.some_inj g_1
   exact ⟨rfl, rfl⟩
  ·
   replace g_1 := Sh.ite_neg hb g_1
   refine uA 3 rfl trivial ?_
   refine WpOps.nil ?_
   obtain rfl := Sh.some_inj g_1
   exact ⟨rfl, rfl⟩
 intro env
 refine uA 1 rfl trivial ?_
 refine WpOps.nil ?_
 refine uF rfl (fun hb => ?_) (fun hb => ?_)
 ·
  replace h := Sh.ite_pos hb h
  refine uC ?_
  obtain ⟨c_2, h⟩ := Sh.chk_some h
  refine uA 1 rfl trivial ?_
  refine uB (v := (u8A (c_1 - (48 : UInt8)))) rfl rfl (Exact.subU8 rfl rfl rfl c_2) ?_
  obtain ⟨c_3, h⟩ := Sh.chk_some h
  refine uA 2 rfl c_3 ?_
  refine WpOps.nil ?_
  obtain rfl := Sh.some_inj h
  refine WpC.ret ?_
  exact uH rfl rfl ⟨rfl, hH⟩
 ·
  replace h := Sh.ite_neg hb h
  refine uC ?_
  refine uA 2 rfl trivial ?_
  obtain ⟨b_2, g_2, h⟩ := Sh.bind_some h
  refine uM 4 19 (bA b_2) rfl ?_ ?_
  ·
   refine uA 1 rfl trivial ?_
   refine uL 16 rfl (fun hb => ?_) (fun hb => ?_)
   ·
    replace g_2 := Sh.ite_pos hb g_2
    refine uA 3 rfl trivial ?_
    refine WpOps.nil ?_
    obtain rfl := Sh.some_inj g_2
    exact ⟨rfl, rfl⟩
   ·
    replace g_2 := Sh.ite_neg hb g_2
    refine uA 3 rfl trivial ?_
    refine WpOps.nil ?_
    obtain rfl := Sh.some_inj g_2
    exact ⟨rfl, rfl⟩
  intro env
  refine uA 1 rfl trivial ?_
  refine WpOps.nil ?_
  refine uF rfl (fun hb => ?_) (fun hb => ?_)
  ·
   replace h := Sh.ite_pos hb h
   refine uC ?_
   obtain ⟨c_4, h⟩ := Sh.chk_some h
   refine uA 1 rfl trivial ?_
   refine uB (v := (u8A (c_1 - (97 : UInt8)))) rfl rfl (Exact.subU8 rfl rfl rfl c_4) ?_
   obtain ⟨c_5, h⟩ := Sh.chk_some h
   obtain ⟨c_6, h⟩ := Sh.chk_some h
   refine uA 3 rfl ⟨c_6, c_5⟩ ?_
   refine WpOps.nil ?_
   obtain rfl := Sh.some_inj h
   refine WpC.ret ?_
   exact uH rfl rfl ⟨rfl, hH⟩
  ·
   replace h := Sh.ite_neg hb h
   refine uC ?_
   refine uA 2 rfl trivial ?_
   obtain ⟨b_3, g_3, h⟩ := Sh.bind_some h
   refine uM 4 30 (bA b_3) rfl ?_ ?_
   ·
    refine uA 1 rfl trivial ?_
    refine uL 27 rfl (fun hb => ?_) (fun hb => ?_)
    ·
     replace g_3 := Sh.ite_pos hb g_3
     refine uA 3 rfl trivial ?_
     refine WpOps.nil ?_
     obtain rfl := Sh.some_inj g_3
     exact ⟨rfl, rfl⟩
    ·
     replace g_3 := Sh.ite_neg hb g_3
     refine uA 3 rfl trivial ?_
     refine WpOps.nil ?_
     obtain rfl := Sh.some_inj g_3
     exact ⟨rfl, rfl⟩
   intro env
   refine uA 1 rfl trivial ?_
   refine WpOps.nil ?_
   refine uF rfl (fun hb => ?_) (fun hb => ?_)
   ·
    replace h := Sh.ite_pos hb h
    refine uC ?_
    obtain ⟨c_7, h⟩ := Sh.chk_some h
    refine uA 1 rfl trivial ?_
    refine uB (v := (u8A (c_1 - (65 : UInt8)))) rfl rfl (Exact.subU8 rfl rfl rfl c_7) ?_
    obtain ⟨c_8, h⟩ := Sh.chk_some h
    obtain ⟨c_9, h⟩ := Sh.chk_some h
    refine uA 3 rfl ⟨c_9, c_8⟩ ?_
    refine WpOps.nil ?_
    obtain rfl := Sh.some_inj h
    refine WpC.ret ?_
    exact uH rfl rfl ⟨rfl, hH⟩
   ·
    replace h := Sh.ite_neg hb h
    refine uI ?_
    refine ⟨_, uD _, ?_⟩
    refine uC ?_
    refine uA 1 rfl trivial ?_
    refine WpOps.nil ?_
    obtain rfl := Sh.some_inj h
    refine WpC.ret ?_
    exact uH rfl rfl ⟨rfl, hH⟩
theorem w_ifexpr_suffix {H0 : Heap} {s_1 : List UInt8} {r : Bool} (h : ifexpr_suffix s_1 = some r) : TCall Tryz.prog 157 [(sA s_1)] H0 (fun v H' => v = (bA r) ∧ H' = H0) noE := by
 refine id (TCall.body Tryz.func157 rfl rfl ?_)
 have hH : Holds H0 [] H0 := rfl
 refine uC ?_
 refine uA 1 rfl trivial ?_
 refine WpOps.nil ?_
 refine WpC.seq ?_
 refine uC ?_
 refine uA 2 rfl trivial ?_
 refine WpOps.nil ?_
 refine vA (fun x : (Unit) × (Unit) => []) (fun x H' => ifexpr_suffix_j1 x.1 = some r ∧ Holds H0 [] H') ?_ ?_
 ·
  obtain ⟨o_1, ho_1, hk_1⟩ := Sh.bind_some h
  refine uX (ifexpr_suffix_b2 s_1) (fun (s : Int) (a : Unit) => [(0, (sA s_1)), (7, (AV.agg (List.map (fun y => (sA y)) ifexpr_suffix_l0))), (8, (iA s))]) (fun (s : Int) (a : Unit) H' => Holds H0 [] H') o_1 (0 : Int) () ho_1 ⟨rfl, rfl, rfl, trivial⟩ hH ?_
  rintro t8_1 _ st_1 env H' h hd_1 hH
  refine uC ?_
  refine uA 1 rfl trivial ?_
  refine WpOps.nil ?_
  refine WpC.seq ?_
  refine uF rfl (fun hb => ?_) (fun hb => ?_)
  ·
   replace h := Sh.ite_pos hb h
   refine uI ?_
   refine ⟨_, uD _, ?_⟩
   refine WpC.seq ?_
   refine WpC.block ?_
   refine uC ?_
   obtain ⟨y_1, hy_1, h⟩ := Sh.bind_some h
   refine uB (v := (sA y_1)) rfl rfl (Exact.ixa (fun y => (sA y)) hy_1 rfl rfl rfl rfl rfl (by kernel_rfl) rfl) ?_
   refine uA 1 rfl trivial ?_
   refine WpOps.nil ?_
   refine uC ?_
   refine uA 2 rfl trivial ?_
   refine WpOps.nil ?_
   refine vA (fun x : (Unit) × (Unit) => [(0, (sA s_1)), (7, (AV.agg (List.map (fun y => (sA y)) ifexpr_suffix_l0))), (8, (iA t8_1))]) (fun x H' => (ifexpr_suffix_j3 t8_1) x.1 = some st_1 ∧ Holds H0 [] H') ?_ ?_
   ·
    obtain ⟨o_2, ho_2, hk_2⟩ := Sh.bind_some h
    refine uX (ifexpr_suffix_b4 s_1 y_1) (fun (s : Int) (a : Unit) => [(0, (sA s_1)), (4, (sA y_1)), (7, (AV.agg (List.map (fun y => (sA y)) ifexpr_suffix_l0))), (8, (iA t8_1)), (11, (AV.agg (List.map (fun y => (sA y)) ifexpr_suffix_l1))), (12, (iA s))]) (fun (s : Int) (a : Unit) H' => Holds H0 [] H') o_2 (0 : Int) () ho_2 ⟨rfl, rfl, rfl, rfl, rfl, rfl, trivial⟩ hH ?_
    rintro t12_1 _ st_2 env H' h hd_2 hH
    refine uC ?_
    refine uA 1 rfl trivial ?_
    refine WpOps.nil ?_
    refine WpC.seq ?_
    refine uF rfl (fun hb => ?_) (fun hb => ?_)
    ·
     replace h := Sh.ite_pos hb h
     refine uI ?_
     refine ⟨_, uD _, ?_⟩
     refine WpC.seq ?_
     refine WpC.block ?_
     refine uC ?_
     obtain ⟨y_2, hy_2, h⟩ := Sh.bind_some h
     refine uB (v := (sA y_2)) rfl rfl (Exact.ixa (fun y => (sA y)) hy_2 rfl rfl rfl rfl rfl (by kernel_rfl) rfl) ?_
     refine uA 1 rfl trivial ?_
     refine WpOps.nil ?_
     refine uC ?_
     obtain ⟨c_1, h⟩ := Sh.chk_some h
     refine uA 5 rfl c_1 ?_
     obtain ⟨b_1, g_1, h⟩ := Sh.bind_some h
     refine uM 7 26 (bA b_1) rfl ?_ ?_
     ·
      refine uA 1 rfl trivial ?_
      refine uL 20 rfl (fun hb => ?_) (fun hb => ?_)
      ·
       replace g_1 := Sh.ite_pos hb g_1
       refine uA 6 rfl trivial ?_
       refine WpOps.nil ?_
       obtain rfl := Sh.some_inj g_1
       exact ⟨rfl, rfl⟩
      ·
       replace g_1 := Sh.ite_neg hb g_1
       obtain ⟨c_2, g_1⟩ := Sh.chk_some g_1
       refine uA 6 rfl c_2 ?_
       refine WpOps.nil ?_
       obtain rfl := Sh.some_inj g_1
       exact ⟨rfl, rfl⟩
     intro env
     refine WpOps.nil ?_
     refine uF rfl (fun hb => ?_) (fun hb => ?_)
     ·
      replace h := Sh.ite_pos hb h
      refine uC ?_
      refine uA 1 rfl trivial ?_
      refine WpOps.nil ?_
      obtain rfl := Sh.some_inj h
      have e := hd_2 _ rfl
      subst e
      have h := hk_2
      obtain rfl := Sh.some_inj h
      have e := hd_1 _ rfl
      subst e
      have h := hk_1
      obtain rfl := Sh.some_inj h
      refine WpC.ret ?_
      exact uH rfl rfl ⟨rfl, hH⟩
     ·
      replace h := Sh.ite_neg hb h
      refine uI ?_
      refine ⟨_, uD _, ?_⟩
      refine uJ ?_
      obtain ⟨c_3, h⟩ := Sh.chk_some h
      refine uA 2 rfl c_3 ?_
      refine WpOps.nil ?_
      obtain rfl := Sh.some_inj h
      exact ⟨_, (uD _), (t12_1 + (1 : Int)), (), rfl, ⟨rfl, rfl, rfl, rfl, rfl, rfl, trivial⟩, hH⟩
    ·
     replace h := Sh.ite_neg hb h
     obtain rfl := Sh.some_inj h
     have e := hd_2 _ rfl
     subst e
     refine WpC.exit ?_
     exact ⟨((), ()), ⟨rfl, rfl, rfl, trivial⟩, hk_2, hH⟩
   ·
    rintro ⟨_, _⟩ env H' ⟨h, hH⟩
    try dsimp only at h
    refine ⟨_, uD _, ?_⟩
    refine uJ ?_
    obtain ⟨c_4, h⟩ := Sh.chk_some h
    refine uA 2 rfl c_4 ?_
    refine WpOps.nil ?_
    obtain rfl := Sh.some_inj h
    exact ⟨_, (uD _), (t8_1 + (1 : Int)), (), rfl, ⟨rfl, rfl, rfl, trivial⟩, hH⟩
  ·
   replace h := Sh.ite_neg hb h
   obtain rfl := Sh.some_inj h
   have e := hd_1 _ rfl
   subst e
   refine WpC.exit ?_
   exact ⟨((), ()), trivial, hk_1, hH⟩
 ·
  rintro ⟨_, _⟩ env H' ⟨h, hH⟩
  try dsimp only at h
  refine ⟨_, uD _, ?_⟩
  refine uC ?_
  refine uA 1 rfl trivial ?_
  refine WpOps.nil ?_
  obtain rfl := Sh.some_inj h
  refine WpC.ret ?_
  exact uH rfl rfl ⟨rfl, hH⟩
theorem w_ifexpr_Number {H0 : Heap} {s_1 : List UInt8} {r : Int × Int} (h : ifexpr_Number s_1 = some r) : TCall Tryz.prog 135 [(sA s_1)] H0 (fun v H' => v = (.tup [(iA r.1), (iA r.2)]) ∧ H' = H0) noE := by
 refine id (TCall.body Tryz.func135 rfl rfl ?_)
 have hH : Holds H0 [] H0 := rfl
 refine uC ?_
 refine uA 2 rfl trivial ?_
 refine WpOps.nil ?_
 refine uC ?_
 refine uA 3 rfl trivial ?_
 refine WpOps.nil ?_
 refine wM (fun x : (Int × List UInt8) × (Unit) => [(4, (.lit (.int .u64 x.1.1))), (5, (sA x.1.2))]) (fun x H' => ifexpr_Number_j1 x.1 = some r ∧ Holds H0 [] H') ?_ ?_
 ·
  refine uC ?_
  refine uA 1 rfl trivial ?_
  refine uB (v := (bA (Lib.hasPrefix s_1 ([48, 120] : List UInt8)))) rfl rfl (Exact.call rfl rfl rfl (l_HasPrefix s_1 ([48, 120] : List UInt8))) ?_
  obtain ⟨b_1, g_1, h⟩ := Sh.bind_some h
  refine uM 4 18 (bA b_1) rfl ?_ ?_
  ·
   refine uA 1 rfl trivial ?_
   refine uL 15 rfl (fun hb => ?_) (fun hb => ?_)
   ·
    replace g_1 := Sh.ite_pos hb g_1
    refine uA 3 rfl trivial ?_
    refine WpOps.nil ?_
    obtain rfl := Sh.some_inj g_1
    exact ⟨rfl, rfl⟩
   ·
    replace g_1 := Sh.ite_neg hb g_1
    refine uA 1 rfl trivial ?_
    refine uB (v := (bA (Lib.hasPrefix s_1 ([48, 88] : List UInt8)))) rfl rfl (Exact.call rfl rfl rfl (l_HasPrefix s_1 ([48, 88] : List UInt8))) ?_
    refine uA 1 rfl trivial ?_
    refine WpOps.nil ?_
    obtain rfl := Sh.some_inj g_1
    exact ⟨rfl, rfl⟩
  intro env
  refine uA 1 rfl trivial ?_
  refine WpOps.nil ?_
  refine uF rfl (fun hb => ?_) (fun hb => ?_)
  ·
   replace h := Sh.ite_pos hb h
   refine wB [] [0, 1, 2, 3] (by kernel_rfl) (by kernel_rfl) ?_
   obtain ⟨c_1, h⟩ := Sh.chk_some h
   refine uK 1 rfl trivial ?_
   refine uK 1 rfl (show 0 ≤ (2 : Int) ∧ True ∧ ((2 : Int)).toNat ≤ s_1.length from ⟨(by omega), trivial, (by omega)⟩) ?_
   refine uK 2 rfl trivial ?_
   refine WpPi.nil ?_
   exact ⟨_, (uD _), (((16 : Int), (s_1.drop ((2 : Int)).toNat)), ()), ⟨rfl, rfl, trivial⟩, h, hH⟩
  ·
   replace h := Sh.ite_neg hb h
   refine uC ?_
   refine uA 1 rfl trivial ?_
   refine uB (v := (bA (Lib.hasPrefix s_1 ([48] : List UInt8)))) rfl rfl (Exact.call rfl rfl rfl (l_HasPrefix s_1 ([48] : List UInt8))) ?_
   refine uA 1 rfl trivial ?_
   refine WpOps.nil ?_
   refine uF rfl (fun hb => ?_) (fun hb => ?_)
   ·
    replace h := Sh.ite_pos hb h
    refine uJ ?_
    refine uA 1 rfl trivial ?_
    refine WpOps.nil ?_
    exact ⟨_, (uD _), (((8 : Int), s_1), ()), ⟨rfl, rfl, trivial⟩, h, hH⟩
   ·
    replace h := Sh.ite_neg hb h
    refine uI ?_
    exact ⟨_, (uD _), (((10 : Int), s_1), ()), ⟨rfl, rfl, trivial⟩, h, hH⟩
 ·
  rintro ⟨⟨base_1, digits_1⟩, _⟩ env H' ⟨h, hH⟩
  try dsimp only at h
  refine uC ?_
  refine uA 2 rfl trivial ?_
  refine WpOps.nil ?_
  refine wM (fun x : (Int × Int) × (Unit) => [(5, (sA digits_1)), (6, (.lit (.int .u64 x.1.1))), (7, (iA x.1.2))]) (fun x H' => (ifexpr_Number_j2 digits_1) x.1 = some r ∧ Holds H0 [] H') ?_ ?_
  ·
   obtain ⟨o_1, ho_1, hk_1⟩ := Sh.bind_some h
   refine uX (ifexpr_Number_b3 base_1 digits_1) (fun (s : Int × Int) (a : Unit) => [(4, (.lit (.int .u64 base_1))), (5, (sA digits_1)), (6, (.lit (.int .u64 s.1))), (7, (iA s.2))]) (fun (s : Int × Int) (a : Unit) H' => Holds H0 [] H') o_1 ((0 : Int), (0 : Int)) () ho_1 ⟨rfl, rfl, rfl, rfl, trivial⟩ hH ?_
   rintro ⟨n_1, i_1⟩ _ st_1 env H' h hd_1 hH
   refine WpC.seq ?_
   refine uC ?_
   refine uA 4 rfl trivial ?_
   refine WpOps.nil ?_
   refine uF rfl (fun hb => ?_) (fun hb => ?_)
   ·
    replace h := Sh.ite_pos hb h
    refine uI ?_
    refine ⟨_, uD _, ?_⟩
    refine WpC.seq ?_
    refine WpC.block ?_
    refine uC ?_
    obtain ⟨ch_1, hch_1, h⟩ := Sh.bind_some h
    refine uA 2 rfl trivial ?_
    refine uB (v := (u8A ch_1)) rfl rfl (Exact.ixs hch_1 rfl rfl rfl rfl) ?_
    obtain ⟨r_1, hr_1, h⟩ := Sh.bind_some h
    refine uB (v := (.lit (.int .u64 r_1))) rfl rfl (Exact.call rfl rfl rfl (w_ifexpr_digit hr_1)) ?_
    refine uA 1 rfl trivial ?_
    refine WpOps.nil ?_
    refine WpC.seq ?_
    refine uC ?_
    refine uA 3 rfl trivial ?_
    refine WpOps.nil ?_
    refine uF rfl (fun hb => ?_) (fun hb => ?_)
    ·
     replace h := Sh.ite_pos hb h
     obtain rfl := Sh.some_inj h
     have e := hd_1 _ rfl
     subst e
     refine WpC.exit ?_
     exact ⟨((n_1, i_1), ()), ⟨rfl, rfl, rfl, trivial⟩, hk_1, hH⟩
    ·
     replace h := Sh.ite_neg hb h
     refine uI ?_
     refine ⟨_, uD _, ?_⟩
     refine uC ?_
     obtain ⟨c_2, h⟩ := Sh.chk_some h
     refine uA 2 rfl trivial ?_
     refine uB (v := (.tup [(.lit (.int .u64 (Sh.mul64 n_1 base_1).1)), (.lit (.int .u64 (Sh.mul64 n_1 base_1).2))])) rfl rfl (Exact.call rfl rfl rfl (l_Mul64 n_1 base_1 c_2)) ?_
     refine uA 5 rfl trivial ?_
     refine WpOps.nil ?_
     refine WpC.seq ?_
     refine uC ?_
     refine uA 2 rfl trivial ?_
     obtain ⟨b_2, g_2, h⟩ := Sh.bind_some h
     refine uM 4 48 (bA b_2) rfl ?_ ?_
     ·
      refine uA 1 rfl trivial ?_
      refine uL 45 rfl (fun hb => ?_) (fun hb => ?_)
      ·
       replace g_2 := Sh.ite_pos hb g_2
       refine uA 3 rfl trivial ?_
       refine WpOps.nil ?_
       obtain rfl := Sh.some_inj g_2
       exact ⟨rfl, rfl⟩
      ·
       replace g_2 := Sh.ite_neg hb g_2
       refine uA 3 rfl trivial ?_
       refine WpOps.nil ?_
       obtain rfl := Sh.some_inj g_2
       exact ⟨rfl, rfl⟩
     intro env
     obtain ⟨b_3, g_3, h⟩ := Sh.bind_some h
     refine uM 6 54 (bA b_3) rfl ?_ ?_
     ·
      refine uA 1 rfl trivial ?_
      refine uL 49 rfl (fun hb => ?_) (fun hb => ?_)
      ·
       replace g_3 := Sh.ite_pos hb g_3
       refine uA 5 rfl trivial ?_
       refine WpOps.nil ?_
       obtain rfl := Sh.some_inj g_3
       exact ⟨rfl, rfl⟩
      ·
       replace g_3 := Sh.ite_neg hb g_3
       obtain ⟨c_3, g_3⟩ := Sh.chk_some g_3
       refine uA 5 rfl c_3 ?_
       refine WpOps.nil ?_
       obtain rfl := Sh.some_inj g_3
       exact ⟨rfl, rfl⟩
     intro env
     refine WpOps.nil ?_
     refine uF rfl (fun hb => ?_) (fun hb => ?_)
     ·
      replace h := Sh.ite_pos hb h
      refine uC ?_
      refine uA 2 rfl trivial ?_
      refine WpOps.nil ?_
      obtain rfl := Sh.some_inj h
      have e := hd_1 _ rfl
      subst e
      have h := hk_1
      obtain rfl := Sh.some_inj h
      refine WpC.ret ?_
      exact uU rfl rfl rfl ⟨rfl, hH⟩
     ·
      replace h := Sh.ite_neg hb h
      refine uI ?_
      refine ⟨_, uD _, ?_⟩
      refine uJ ?_
      obtain ⟨c_4, h⟩ := Sh.chk_some h
      refine uA 4 rfl c_4 ?_
      refine WpOps.nil ?_
      refine ⟨_, uD _, ?_⟩
      refine uJ ?_
      obtain ⟨c_5, h⟩ := Sh.chk_some h
      refine uA 3 rfl c_5 ?_
      refine WpOps.nil ?_
      obtain rfl := Sh.some_inj h
      exact ⟨_, (uD _), (((Sh.mul64 n_1 base_1).2 + r_1), (i_1 + (1 : Int))), (), rfl, ⟨rfl, rfl, rfl, rfl, trivial⟩, hH⟩
   ·
    replace h := Sh.ite_neg hb h
    obtain rfl := Sh.some_inj h
    have e := hd_1 _ rfl
    subst e
    refine WpC.exit ?_
    exact ⟨((n_1, i_1), ()), ⟨rfl, rfl, rfl, trivial⟩, hk_1, hH⟩
  ·
   rintro ⟨⟨n_2, i_2⟩, _⟩ env H' ⟨h, hH⟩
   try dsimp only at h
   refine WpC.seq ?_
   refine uC ?_
   refine uA 2 rfl trivial ?_
   obtain ⟨b_4, g_4, h⟩ := Sh.bind_some h
   refine uM 7 66 (bA b_4) rfl ?_ ?_
   ·
    refine uA 1 rfl trivial ?_
    refine uL 60 rfl (fun hb => ?_) (fun hb => ?_)
    ·
     replace g_4 := Sh.ite_pos hb g_4
     refine uA 6 rfl trivial ?_
     refine WpOps.nil ?_
     obtain rfl := Sh.some_inj g_4
     exact ⟨rfl, rfl⟩
    ·
     replace g_4 := Sh.ite_neg hb g_4
     obtain ⟨c_6, g_4⟩ := Sh.chk_some g_4
     refine uA 2 rfl trivial ?_
     refine uA 1 rfl (show 0 ≤ i_2 ∧ True ∧ (i_2).toNat ≤ digits_1.length from ⟨(by omega), trivial, (by omega)⟩) ?_
     obtain ⟨r_2, hr_2, g_4⟩ := Sh.bind_some g_4
     refine uB (v := (bA r_2)) rfl rfl (Exact.call rfl rfl rfl (w_ifexpr_suffix hr_2)) ?_
     refine uA 2 rfl trivial ?_
     refine WpOps.nil ?_
     obtain rfl := Sh.some_inj g_4
     exact ⟨rfl, rfl⟩
   intro env
   refine WpOps.nil ?_
   refine uF rfl (fun hb => ?_) (fun hb => ?_)
   ·
    replace h := Sh.ite_pos hb h
    refine uC ?_
    refine uA 2 rfl trivial ?_
    refine WpOps.nil ?_
    obtain rfl := Sh.some_inj h
    refine WpC.ret ?_
    exact uU rfl rfl rfl ⟨rfl, hH⟩
   ·
    replace h := Sh.ite_neg hb h
    refine uI ?_
    refine ⟨_, uD _, ?_⟩
    refine uC ?_
    obtain ⟨c_7, h⟩ := Sh.chk_some h
    refine uA 4 rfl c_7 ?_
    refine WpOps.nil ?_
    obtain rfl := Sh.some_inj h
    refine WpC.ret ?_
    exact uU rfl rfl rfl ⟨rfl, hH⟩
theorem w_ifexpr_Quote {H0 : Heap} {s_1 : List UInt8} {r : Int × Int} (h : ifexpr_Quote s_1 = some r) : TCall Tryz.prog 136 [(sA s_1)] H0 (fun v H' => v = (.tup [(iA r.1), (iA r.2)]) ∧ H' = H0) noE := by
  unfold ifexpr_Quote at h; cases h
theorem w_ifexpr_level {H0 : Heap} (hG : Glob H0) {sign_1 : List UInt8} {r : Int} (h : ifexpr_level sign_1 = some r) : TCall Tryz.prog 105 [(sA sign_1)] H0 (fun v H' => v = (iA r) ∧ H' = H0) noE := by
 refine id (TCall.body Tryz.func105 rfl rfl ?_)
 have hH : Holds H0 [] H0 := rfl
 refine uC ?_
 refine uA 1 rfl trivial ?_
 refine WpOps.nil ?_
 refine WpC.seq ?_
 refine uC ?_
 refine uB (v := (AV.agg (List.map (fun y => (sA y)) ifexpr_level_l0))) rfl rfl (Exact.pv (c := []) (by kernel_rfl) trivial) ?_
 refine uA 1 rfl trivial ?_
 refine WpOps.nil ?_
 refine vA (fun x : (Unit) × (Unit) => []) (fun x H' => ifexpr_level_j1 x.1 = some r ∧ Holds H0 [] H') ?_ ?_
 ·
  obtain ⟨o_1, ho_1, hk_1⟩ := Sh.bind_some h
  refine uX (ifexpr_level_b2 sign_1) (fun (s : Int) (a : Unit) => [(0, (sA sign_1)), (5, (AV.agg (List.map (fun y => (sA y)) ifexpr_level_l0))), (6, (iA s))]) (fun (s : Int) (a : Unit) H' => Holds H0 [] H') o_1 (0 : Int) () ho_1 ⟨rfl, rfl, rfl, trivial⟩ hH ?_
  rintro t6_1 _ st_1 env H' h hd_1 hH
  refine uC ?_
  refine uA 1 rfl trivial ?_
  refine WpOps.nil ?_
  refine WpC.seq ?_
  refine uF rfl (fun hb => ?_) (fun hb => ?_)
  ·
   replace h := Sh.ite_pos hb h
   refine uI ?_
   refine ⟨_, uD _, ?_⟩
   refine WpC.seq ?_
   refine WpC.block ?_
   refine uC ?_
   obtain ⟨y_1, hy_1, h⟩ := Sh.bind_some h
   refine uA 1 rfl trivial ?_
   refine uB (v := (sA y_1)) rfl rfl (Exact.ixa (fun y => (sA y)) hy_1 rfl rfl rfl rfl rfl (by kernel_rfl) rfl) ?_
   refine uA 2 rfl trivial ?_
   refine WpOps.nil ?_
   refine uC ?_
   obtain ⟨c_1, h⟩ := Sh.chk_some h
   refine uA 1 rfl trivial ?_
   refine uB (v := (AV.rows 1 (List.map cS (Lib.fields y_1)))) rfl rfl (Exact.call rfl rfl rfl (l_Fields y_1 (hG.up hH).f c_1)) ?_
   obtain ⟨r_1, hr_1, h⟩ := Sh.bind_some h
   refine uA 1 rfl trivial ?_
   refine uB (v := (bA r_1)) rfl rfl (Exact.call rfl rfl rfl (w_slices_Contains_Lstring_string hr_1)) ?_
   refine WpOps.nil ?_
   refine uF rfl (fun hb => ?_) (fun hb => ?_)
   ·
    replace h := Sh.ite_pos hb h
    refine uC ?_
    obtain ⟨c_2, h⟩ := Sh.chk_some h
    refine uA 3 rfl c_2 ?_
    refine WpOps.nil ?_
    obtain rfl := Sh.some_inj h
    have e := hd_1 _ rfl
    subst e
    have h := hk_1
    obtain rfl := Sh.some_inj h
    refine WpC.ret ?_
    exact uH rfl rfl ⟨rfl, hH⟩
   ·
    replace h := Sh.ite_neg hb h
    refine uI ?_
    refine ⟨_, uD _, ?_⟩
    refine uJ ?_
    obtain ⟨c_3, h⟩ := Sh.chk_some h
    refine uA 2 rfl c_3 ?_
    refine WpOps.nil ?_
    obtain rfl := Sh.some_inj h
    exact ⟨_, (uD _), (t6_1 + (1 : Int)), (), rfl, ⟨rfl, rfl, rfl, trivial⟩, hH⟩
  ·
   replace h := Sh.ite_neg hb h
   obtain rfl := Sh.some_inj h
   have e := hd_1 _ rfl
   subst e
   refine WpC.exit ?_
   exact ⟨((), ()), trivial, hk_1, hH⟩
 ·
  rintro ⟨_, _⟩ env H' ⟨h, hH⟩
  try dsimp only at h
  refine ⟨_, uD _, ?_⟩
  refine uC ?_
  refine uA 1 rfl trivial ?_
  refine WpOps.nil ?_
  obtain rfl := Sh.some_inj h
  refine WpC.ret ?_
  exact uH rfl rfl ⟨rfl, hH⟩
structure ReadOk (R : ReadR) : Prop where
 w_ifexpr_reader_choice : ∀ {H0 H : Heap} {g_1 : Nat} (hG : Glob H0) {r_1 : GIfexpr_reader} {deep_1 : Int} (hH : Holds H0 [.cell g_1 96 (cGIfexpr_reader r_1)] H) {r : (GVal) × GIfexpr_reader} (h : R.ifexpr_reader_choice r_1 deep_1 = some r), TCall Tryz.prog 38 [(.lit (.pointer (some ⟨g_1, 0, none⟩))), (iA deep_1)] H (fun v H' => v = (valA r.1) ∧ Holds H0 [.cell g_1 96 (cGIfexpr_reader r.2)] H') noE
 w_ifexpr_reader_inner : ∀ {H0 H : Heap} {g_1 : Nat} (hG : Glob H0) {r_1 : GIfexpr_reader} {deep_1 : Int} (hH : Holds H0 [.cell g_1 96 (cGIfexpr_reader r_1)] H) {r : (GVal) × GIfexpr_reader} (h : R.ifexpr_reader_inner r_1 deep_1 = some r), TCall Tryz.prog 74 [(.lit (.pointer (some ⟨g_1, 0, none⟩))), (iA deep_1)] H (fun v H' => v = (valA r.1) ∧ Holds H0 [.cell g_1 96 (cGIfexpr_reader r.2)] H') noE
 w_ifexpr_reader_binary : ∀ {H0 H : Heap} {g_1 : Nat} (hG : Glob H0) {r_1 : GIfexpr_reader} {least_1 : Int} {deep_1 : Int} (hH : Holds H0 [.cell g_1 96 (cGIfexpr_reader r_1)] H) {r : (GVal) × GIfexpr_reader} (h : R.ifexpr_reader_binary r_1 least_1 deep_1 = some r), TCall Tryz.prog 71 [(.lit (.pointer (some ⟨g_1, 0, none⟩))), (iA least_1), (iA deep_1)] H (fun v H' => v = (valA r.1) ∧ Holds H0 [.cell g_1 96 (cGIfexpr_reader r.2)] H') noE
 w_ifexpr_reader_unary : ∀ {H0 H : Heap} {g_1 : Nat} (hG : Glob H0) {r_1 : GIfexpr_reader} {deep_1 : Int} (hH : Holds H0 [.cell g_1 96 (cGIfexpr_reader r_1)] H) {r : (GVal) × GIfexpr_reader} (h : R.ifexpr_reader_unary r_1 deep_1 = some r), TCall Tryz.prog 104 [(.lit (.pointer (some ⟨g_1, 0, none⟩))), (iA deep_1)] H (fun v H' => v = (valA r.1) ∧ Holds H0 [.cell g_1 96 (cGIfexpr_reader r.2)] H') noE
 w_ifexpr_reader_atom : ∀ {H0 H : Heap} {g_1 : Nat} (hG : Glob H0) {r_1 : GIfexpr_reader} {deep_1 : Int} (hH : Holds H0 [.cell g_1 96 (cGIfexpr_reader r_1)] H) {r : (GVal) × GIfexpr_reader} (h : R.ifexpr_reader_atom r_1 deep_1 = some r), TCall Tryz.prog 123 [(.lit (.pointer (some ⟨g_1, 0, none⟩))), (iA deep_1)] H (fun v H' => v = (valA r.1) ∧ Holds H0 [.cell g_1 96 (cGIfexpr_reader r.2)] H') noE
theorem w_ifexpr_reader_choiceF {R : ReadR} (hR : ReadOk R) {H0 H : Heap} {g_1 : Nat} (hG : Glob H0) {r_1 : GIfexpr_reader} {deep_1 : Int} (hH : Holds H0 [.cell g_1 96 (cGIfexpr_reader r_1)] H) {r : (GVal) × GIfexpr_reader} (h : ifexpr_reader_choiceF R r_1 deep_1 = some r) : TCall Tryz.prog 38 [(.lit (.pointer (some ⟨g_1, 0, none⟩))), (iA deep_1)] H (fun v H' => v = (valA r.1) ∧ Holds H0 [.cell g_1 96 (cGIfexpr_reader r.2)] H') noE := by
 refine TCall.body Tryz.func38 rfl rfl ?_
 refine uC ?_
 refine uA 1 rfl trivial ?_
 refine WpOps.nil ?_
 refine uC ?_
 obtain ⟨r_2, hr_1, h⟩ := Sh.bind_some h
 refine uA 2 rfl trivial ?_
 refine uE rfl rfl (vH (v := (valA r_2.1)) rfl rfl rfl hH (i := 0) rfl (fun H1 hl hh => hR.w_ifexpr_reader_binary (hG.le hl) hh hr_1) fun H' hH => ?_)
 refine uB (v := (valA r_2.1)) rfl rfl (uZ rfl rfl) ?_
 refine WpOps.nil ?_
 refine WpC.seq ?_
 refine uC ?_
 refine uA 3 rfl trivial ?_
 refine uB (v := (bA r_2.2.wrong)) rfl rfl (Exact.load rfl rfl (hH.cell (i := 0) rfl) rfl rfl) ?_
 obtain ⟨b_1, g_2, h⟩ := Sh.bind_some h
 refine uM 5 18 (bA b_1) rfl ?_ ?_
 ·
  refine uA 1 rfl trivial ?_
  refine uL 14 rfl (fun hb => ?_) (fun hb => ?_)
  ·
   replace g_2 := Sh.ite_pos hb g_2
   refine uA 4 rfl trivial ?_
   refine WpOps.nil ?_
   obtain rfl := Sh.some_inj g_2
   exact ⟨rfl, rfl⟩
  ·
   replace g_2 := Sh.ite_neg hb g_2
   obtain ⟨r_3, hr_2, g_2⟩ := Sh.bind_some g_2
   refine uA 1 rfl trivial ?_
   refine uB (v := (sA r_3)) rfl rfl (Exact.call rfl rfl rfl (w_ifexpr_reader_sign (hH.cell (i := 0) rfl) hr_2)) ?_
   refine uA 2 rfl trivial ?_
   refine WpOps.nil ?_
   obtain rfl := Sh.some_inj g_2
   exact ⟨rfl, rfl⟩
 intro env
 refine WpOps.nil ?_
 refine uF rfl (fun hb => ?_) (fun hb => ?_)
 ·
  replace h := Sh.ite_pos hb h
  refine uC ?_
  refine uB (v := (valA r_2.1)) rfl rfl (wC rfl rfl) ?_
  refine uB (v := (valA r_2.1)) rfl rfl (uZ rfl rfl) ?_
  refine WpOps.nil ?_
  obtain rfl := Sh.some_inj h
  refine WpC.ret ?_
  exact uH rfl (forceA_rfl rfl) ⟨rfl, hH⟩
 ·
  replace h := Sh.ite_neg hb h
  refine uI ?_
  refine ⟨_, uD _, ?_⟩
  refine uC ?_
  obtain ⟨r_4, hr_3, h⟩ := Sh.bind_some h
  refine uA 1 rfl trivial ?_
  refine uE rfl rfl (vH (v := (.tup [])) rfl rfl rfl hH (i := 0) rfl (fun H1 hl hh => w_ifexpr_reader_needs hh hr_3) fun H' hH => ?_)
  refine WpOps.nil ?_
  refine uC ?_
  obtain ⟨r_5, hr_4, h⟩ := Sh.bind_some h
  refine uA 2 rfl trivial ?_
  refine uE rfl rfl (vH (v := (valA r_5.1)) rfl rfl rfl hH (i := 0) rfl (fun H1 hl hh => hR.w_ifexpr_reader_inner (hG.le hl) hh hr_4) fun H' hH => ?_)
  refine uB (v := (valA r_5.1)) rfl rfl (uZ rfl rfl) ?_
  refine WpOps.nil ?_
  refine uC ?_
  obtain ⟨r_6, hr_5, h⟩ := Sh.bind_some h
  refine uA 1 rfl trivial ?_
  refine uE rfl rfl (vH (v := (.tup [])) rfl rfl rfl hH (i := 0) rfl (fun H1 hl hh => w_ifexpr_reader_needs hh hr_5) fun H' hH => ?_)
  refine WpOps.nil ?_
  refine uC ?_
  refine uB (v := (valA r_2.1)) rfl rfl (wC rfl rfl) ?_
  refine uB (v := (valA r_5.1)) rfl rfl (wC rfl rfl) ?_
  obtain ⟨r_7, hr_6, h⟩ := Sh.bind_some h
  refine uA 2 rfl trivial ?_
  refine uE rfl rfl (vH (v := (valA r_7.1)) rfl rfl rfl hH (i := 0) rfl (fun H1 hl hh => hR.w_ifexpr_reader_inner (hG.le hl) hh hr_6) fun H' hH => ?_)
  refine uB (v := (AV.agg (cGIfexpr_choice (GIfexpr_choice.mk r_2.1 r_5.1 r_7.1)))) rfl rfl (Exact.bld (l := [(0, (valA r_2.1)), (1, (valA r_5.1)), (2, (valA r_7.1))]) rfl rfl (bld_143 _ _ _)) ?_
  refine uA 1 rfl trivial ?_
  refine uB (v := (valA (GVal.cho r_2.1 r_5.1 r_7.1))) rfl rfl (uZ rfl rfl) ?_
  refine WpOps.nil ?_
  obtain rfl := Sh.some_inj h
  refine WpC.ret ?_
  exact uH rfl (forceA_rfl rfl) ⟨rfl, hH⟩
theorem w_ifexpr_reader_innerF {R : ReadR} (hR : ReadOk R) {H0 H : Heap} {g_1 : Nat} (hG : Glob H0) {r_1 : GIfexpr_reader} {deep_1 : Int} (hH : Holds H0 [.cell g_1 96 (cGIfexpr_reader r_1)] H) {r : (GVal) × GIfexpr_reader} (h : ifexpr_reader_innerF R r_1 deep_1 = some r) : TCall Tryz.prog 74 [(.lit (.pointer (some ⟨g_1, 0, none⟩))), (iA deep_1)] H (fun v H' => v = (valA r.1) ∧ Holds H0 [.cell g_1 96 (cGIfexpr_reader r.2)] H') noE := by
 refine TCall.body Tryz.func74 rfl rfl ?_
 refine uC ?_
 refine uA 1 rfl trivial ?_
 refine WpOps.nil ?_
 refine WpC.seq ?_
 refine uC ?_
 refine uA 2 rfl trivial ?_
 obtain ⟨b_1, g_2, h⟩ := Sh.bind_some h
 refine uM 6 12 (bA b_1) rfl ?_ ?_
 ·
  refine uA 1 rfl trivial ?_
  refine uL 7 rfl (fun hb => ?_) (fun hb => ?_)
  ·
   replace g_2 := Sh.ite_pos hb g_2
   refine uA 5 rfl trivial ?_
   refine WpOps.nil ?_
   obtain rfl := Sh.some_inj g_2
   exact ⟨rfl, rfl⟩
  ·
   replace g_2 := Sh.ite_neg hb g_2
   refine uA 3 rfl trivial ?_
   refine uB (v := (bA r_1.wrong)) rfl rfl (Exact.load rfl rfl (hH.cell (i := 0) rfl) rfl rfl) ?_
   refine uA 1 rfl trivial ?_
   refine WpOps.nil ?_
   obtain rfl := Sh.some_inj g_2
   exact ⟨rfl, rfl⟩
 intro env
 refine WpOps.nil ?_
 refine uF rfl (fun hb => ?_) (fun hb => ?_)
 ·
  replace h := Sh.ite_pos hb h
  refine uC ?_
  refine uA 3 rfl trivial ?_
  refine uE rfl rfl (uQ (cs' := (cGIfexpr_reader (GIfexpr_reader.mk r_1.l true r_1.bad))) (v := (bA true)) rfl rfl hH (i := 0) rfl rfl rfl rfl rfl rfl rfl fun H' hH => ?_)
  refine WpOps.nil ?_
  refine uC ?_
  refine uA 1 rfl trivial ?_
  refine uB (v := (valA (GVal.num (0 : Int)))) rfl rfl (uZ rfl rfl) ?_
  refine WpOps.nil ?_
  obtain rfl := Sh.some_inj h
  refine WpC.ret ?_
  exact uH rfl (forceA_rfl rfl) ⟨rfl, hH⟩
 ·
  replace h := Sh.ite_neg hb h
  refine uI ?_
  refine ⟨_, uD _, ?_⟩
  refine uC ?_
  obtain ⟨c_1, h⟩ := Sh.chk_some h
  obtain ⟨r_2, hr_1, h⟩ := Sh.bind_some h
  refine uA 3 rfl c_1 ?_
  refine uE rfl rfl (vH (v := (valA r_2.1)) rfl rfl rfl hH (i := 0) rfl (fun H1 hl hh => hR.w_ifexpr_reader_choice (hG.le hl) hh hr_1) fun H' hH => ?_)
  refine uB (v := (valA r_2.1)) rfl rfl (uZ rfl rfl) ?_
  refine WpOps.nil ?_
  obtain rfl := Sh.some_inj h
  refine WpC.ret ?_
  exact uH rfl (forceA_rfl rfl) ⟨rfl, hH⟩
theorem w_ifexpr_reader_binaryF {R : ReadR} (hR : ReadOk R) {H0 H : Heap} {g_1 : Nat} (hG : Glob H0) {r_1 : GIfexpr_reader} {least_1 : Int} {deep_1 : Int} (hH : Holds H0 [.cell g_1 96 (cGIfexpr_reader r_1)] H) {r : (GVal) × GIfexpr_reader} (h : ifexpr_reader_binaryF R r_1 least_1 deep_1 = some r) : TCall Tryz.prog 71 [(.lit (.pointer (some ⟨g_1, 0, none⟩))), (iA least_1), (iA deep_1)] H (fun v H' => v = (valA r.1) ∧ Holds H0 [.cell g_1 96 (cGIfexpr_reader r.2)] H') noE := by
 refine TCall.body Tryz.func71 rfl rfl ?_
 refine uC ?_
 refine uA 1 rfl trivial ?_
 refine WpOps.nil ?_
 refine uC ?_
 obtain ⟨r_2, hr_1, h⟩ := Sh.bind_some h
 refine uA 2 rfl trivial ?_
 refine uE rfl rfl (vH (v := (valA r_2.1)) rfl rfl rfl hH (i := 0) rfl (fun H1 hl hh => hR.w_ifexpr_reader_unary (hG.le hl) hh hr_1) fun H' hH => ?_)
 refine uB (v := (valA r_2.1)) rfl rfl (uZ rfl rfl) ?_
 refine WpOps.nil ?_
 refine wM (fun x : (GVal × GIfexpr_reader) × (Unit) => [(7, (valA x.1.1))]) (fun x H' => (ifexpr_reader_binary_j1 R) x.1 = some r ∧ Holds H0 [.cell g_1 96 (cGIfexpr_reader x.1.2)] H') ?_ ?_
 ·
  obtain ⟨o_1, ho_1, hk_1⟩ := Sh.bind_some h
  refine uX ((ifexpr_reader_binary_b2 R) least_1 deep_1) (fun (s : GVal × GIfexpr_reader) (a : Unit) => [(0, (.lit (.pointer (some ⟨g_1, 0, none⟩)))), (1, (iA least_1)), (2, (iA deep_1)), (7, (valA s.1))]) (fun (s : GVal × GIfexpr_reader) (a : Unit) H' => Holds H0 [.cell g_1 96 (cGIfexpr_reader s.2)] H') o_1 (r_2.1, r_2.2) () ho_1 ⟨rfl, rfl, rfl, rfl, trivial⟩ hH ?_
  rintro ⟨x_1, r_3⟩ _ st_1 env H' h hd_1 hH
  refine WpC.seq ?_
  refine uC ?_
  refine uA 3 rfl trivial ?_
  refine uB (v := (bA r_3.wrong)) rfl rfl (Exact.load rfl rfl (hH.cell (i := 0) rfl) rfl rfl) ?_
  refine uA 1 rfl trivial ?_
  refine WpOps.nil ?_
  refine uF rfl (fun hb => ?_) (fun hb => ?_)
  ·
   replace h := Sh.ite_pos hb h
   refine uI ?_
   refine ⟨_, uD _, ?_⟩
   refine WpC.block ?_
   refine uC ?_
   obtain ⟨r_4, hr_2, h⟩ := Sh.bind_some h
   refine uA 1 rfl trivial ?_
   refine uB (v := (sA r_4)) rfl rfl (Exact.call rfl rfl rfl (w_ifexpr_reader_sign (hH.cell (i := 0) rfl) hr_2)) ?_
   refine uA 1 rfl trivial ?_
   refine WpOps.nil ?_
   refine uC ?_
   obtain ⟨r_5, hr_3, h⟩ := Sh.bind_some h
   refine uA 1 rfl trivial ?_
   refine uB (v := (iA r_5)) rfl rfl (Exact.call rfl rfl rfl (w_ifexpr_level (hG.up hH) hr_3)) ?_
   refine uA 1 rfl trivial ?_
   refine WpOps.nil ?_
   refine WpC.seq ?_
   refine uC ?_
   refine uA 3 rfl trivial ?_
   obtain ⟨b_1, g_2, h⟩ := Sh.bind_some h
   refine uM 4 28 (bA b_1) rfl ?_ ?_
   ·
    refine uA 1 rfl trivial ?_
    refine uL 25 rfl (fun hb => ?_) (fun hb => ?_)
    ·
     replace g_2 := Sh.ite_pos hb g_2
     refine uA 3 rfl trivial ?_
     refine WpOps.nil ?_
     obtain rfl := Sh.some_inj g_2
     exact ⟨rfl, rfl⟩
    ·
     replace g_2 := Sh.ite_neg hb g_2
     refine uA 3 rfl trivial ?_
     refine WpOps.nil ?_
     obtain rfl := Sh.some_inj g_2
     exact ⟨rfl, rfl⟩
   intro env
   refine WpOps.nil ?_
   refine uF rfl (fun hb => ?_) (fun hb => ?_)
   ·
    replace h := Sh.ite_pos hb h
    refine uC ?_
    refine uB (v := (valA x_1)) rfl rfl (wC rfl rfl) ?_
    refine uB (v := (valA x_1)) rfl rfl (uZ rfl rfl) ?_
    refine WpOps.nil ?_
    obtain rfl := Sh.some_inj h
    have e := hd_1 _ rfl
    subst e
    have h := hk_1
    obtain rfl := Sh.some_inj h
    refine WpC.ret ?_
    exact uH rfl (forceA_rfl rfl) ⟨rfl, hH⟩
   ·
    replace h := Sh.ite_neg hb h
    refine uI ?_
    refine ⟨_, uD _, ?_⟩
    refine uC ?_
    obtain ⟨r_6, hr_4, h⟩ := Sh.bind_some h
    refine uA 2 rfl trivial ?_
    refine uE rfl rfl (vH (v := (.tup [])) rfl rfl rfl hH (i := 0) rfl (fun H1 hl hh => w_ifexpr_reader_needs hh hr_4) fun H' hH => ?_)
    refine WpOps.nil ?_
    refine uJ ?_
    refine uA 1 rfl trivial ?_
    refine uB (v := (valA x_1)) rfl rfl (wC rfl rfl) ?_
    obtain ⟨c_1, h⟩ := Sh.chk_some h
    obtain ⟨r_7, hr_5, h⟩ := Sh.bind_some h
    refine uA 4 rfl c_1 ?_
    refine uE rfl rfl (vH (v := (valA r_7.1)) rfl rfl rfl hH (i := 0) rfl (fun H1 hl hh => hR.w_ifexpr_reader_binary (hG.le hl) hh hr_5) fun H' hH => ?_)
    refine uB (v := (AV.agg (cGIfexpr_binary (GIfexpr_binary.mk r_4 x_1 r_7.1)))) rfl rfl (Exact.bld (l := [(0, (sA r_4)), (1, (valA x_1)), (2, (valA r_7.1))]) rfl rfl (bld_194 _ _ _)) ?_
    refine uA 1 rfl trivial ?_
    refine uB (v := (valA (GVal.bin r_4 x_1 r_7.1))) rfl rfl (uZ rfl rfl) ?_
    refine WpOps.nil ?_
    obtain rfl := Sh.some_inj h
    exact ⟨_, (uD _), ((GVal.bin r_4 x_1 r_7.1), r_7.2), (), rfl, ⟨rfl, rfl, rfl, rfl, trivial⟩, hH⟩
  ·
   replace h := Sh.ite_neg hb h
   obtain rfl := Sh.some_inj h
   have e := hd_1 _ rfl
   subst e
   refine WpC.exit ?_
   exact ⟨((x_1, r_3), ()), ⟨rfl, trivial⟩, hk_1, hH⟩
 ·
  rintro ⟨⟨x_2, r_8⟩, _⟩ env H' ⟨h, hH⟩
  try dsimp only at h
  refine uC ?_
  refine uB (v := (valA x_2)) rfl rfl (wC rfl rfl) ?_
  refine uB (v := (valA x_2)) rfl rfl (uZ rfl rfl) ?_
  refine WpOps.nil ?_
  obtain rfl := Sh.some_inj h
  refine WpC.ret ?_
  exact uH rfl (forceA_rfl rfl) ⟨rfl, hH⟩
theorem w_ifexpr_reader_unaryF {R : ReadR} (hR : ReadOk R) {H0 H : Heap} {g_1 : Nat} (hG : Glob H0) {r_1 : GIfexpr_reader} {deep_1 : Int} (hH : Holds H0 [.cell g_1 96 (cGIfexpr_reader r_1)] H) {r : (GVal) × GIfexpr_reader} (h : ifexpr_reader_unaryF R r_1 deep_1 = some r) : TCall Tryz.prog 104 [(.lit (.pointer (some ⟨g_1, 0, none⟩))), (iA deep_1)] H (fun v H' => v = (valA r.1) ∧ Holds H0 [.cell g_1 96 (cGIfexpr_reader r.2)] H') noE := by
 refine TCall.body Tryz.func104 rfl rfl ?_
 refine uC ?_
 refine uA 1 rfl trivial ?_
 refine WpOps.nil ?_
 refine uC ?_
 obtain ⟨r_2, hr_1, h⟩ := Sh.bind_some h
 refine uA 1 rfl trivial ?_
 refine uB (v := (sA r_2)) rfl rfl (Exact.call rfl rfl rfl (w_ifexpr_reader_sign (hH.cell (i := 0) rfl) hr_1)) ?_
 refine uA 1 rfl trivial ?_
 refine WpOps.nil ?_
 refine WpC.seq ?_
 refine uC ?_
 refine uA 2 rfl trivial ?_
 obtain ⟨b_1, g_2, h⟩ := Sh.bind_some h
 refine uM 4 13 (bA b_1) rfl ?_ ?_
 ·
  refine uA 1 rfl trivial ?_
  refine uL 10 rfl (fun hb => ?_) (fun hb => ?_)
  ·
   replace g_2 := Sh.ite_pos hb g_2
   refine uA 3 rfl trivial ?_
   refine WpOps.nil ?_
   obtain rfl := Sh.some_inj g_2
   exact ⟨rfl, rfl⟩
  ·
   replace g_2 := Sh.ite_neg hb g_2
   refine uA 3 rfl trivial ?_
   refine WpOps.nil ?_
   obtain rfl := Sh.some_inj g_2
   exact ⟨rfl, rfl⟩
 intro env
 obtain ⟨b_2, g_3, h⟩ := Sh.bind_some h
 refine uM 4 17 (bA b_2) rfl ?_ ?_
 ·
  refine uA 1 rfl trivial ?_
  refine uL 14 rfl (fun hb => ?_) (fun hb => ?_)
  ·
   replace g_3 := Sh.ite_pos hb g_3
   refine uA 3 rfl trivial ?_
   refine WpOps.nil ?_
   obtain rfl := Sh.some_inj g_3
   exact ⟨rfl, rfl⟩
  ·
   replace g_3 := Sh.ite_neg hb g_3
   refine uA 3 rfl trivial ?_
   refine WpOps.nil ?_
   obtain rfl := Sh.some_inj g_3
   exact ⟨rfl, rfl⟩
 intro env
 obtain ⟨b_3, g_4, h⟩ := Sh.bind_some h
 refine uM 4 21 (bA b_3) rfl ?_ ?_
 ·
  refine uA 1 rfl trivial ?_
  refine uL 18 rfl (fun hb => ?_) (fun hb => ?_)
  ·
   replace g_4 := Sh.ite_pos hb g_4
   refine uA 3 rfl trivial ?_
   refine WpOps.nil ?_
   obtain rfl := Sh.some_inj g_4
   exact ⟨rfl, rfl⟩
  ·
   replace g_4 := Sh.ite_neg hb g_4
   refine uA 3 rfl trivial ?_
   refine WpOps.nil ?_
   obtain rfl := Sh.some_inj g_4
   exact ⟨rfl, rfl⟩
 intro env
 refine WpOps.nil ?_
 refine uF rfl (fun hb => ?_) (fun hb => ?_)
 ·
  replace h := Sh.ite_pos hb h
  refine uC ?_
  obtain ⟨r_3, hr_2, h⟩ := Sh.bind_some h
  refine uA 2 rfl trivial ?_
  refine uE rfl rfl (vH (v := (valA r_3.1)) rfl rfl rfl hH (i := 0) rfl (fun H1 hl hh => hR.w_ifexpr_reader_atom (hG.le hl) hh hr_2) fun H' hH => ?_)
  refine uB (v := (valA r_3.1)) rfl rfl (uZ rfl rfl) ?_
  refine WpOps.nil ?_
  obtain rfl := Sh.some_inj h
  refine WpC.ret ?_
  exact uH rfl (forceA_rfl rfl) ⟨rfl, hH⟩
 ·
  replace h := Sh.ite_neg hb h
  refine uI ?_
  refine ⟨_, uD _, ?_⟩
  refine WpC.seq ?_
  refine uC ?_
  refine uA 2 rfl trivial ?_
  refine WpOps.nil ?_
  refine uF rfl (fun hb => ?_) (fun hb => ?_)
  ·
   replace h := Sh.ite_pos hb h
   refine uC ?_
   refine uA 3 rfl trivial ?_
   refine uE rfl rfl (uQ (cs' := (cGIfexpr_reader (GIfexpr_reader.mk r_1.l true r_1.bad))) (v := (bA true)) rfl rfl hH (i := 0) rfl rfl rfl rfl rfl rfl rfl fun H' hH => ?_)
   refine WpOps.nil ?_
   refine uC ?_
   refine uA 1 rfl trivial ?_
   refine uB (v := (valA (GVal.num (0 : Int)))) rfl rfl (uZ rfl rfl) ?_
   refine WpOps.nil ?_
   obtain rfl := Sh.some_inj h
   refine WpC.ret ?_
   exact uH rfl (forceA_rfl rfl) ⟨rfl, hH⟩
  ·
   replace h := Sh.ite_neg hb h
   refine uI ?_
   refine ⟨_, uD _, ?_⟩
   refine uC ?_
   obtain ⟨r_4, hr_3, h⟩ := Sh.bind_some h
   refine uA 2 rfl trivial ?_
   refine uE rfl rfl (vH (v := (.tup [])) rfl rfl rfl hH (i := 0) rfl (fun H1 hl hh => w_ifexpr_reader_needs hh hr_3) fun H' hH => ?_)
   refine WpOps.nil ?_
   refine uC ?_
   obtain ⟨c_1, h⟩ := Sh.chk_some h
   obtain ⟨r_5, hr_4, h⟩ := Sh.bind_some h
   refine uA 4 rfl c_1 ?_
   refine uE rfl rfl (vH (v := (valA r_5.1)) rfl rfl rfl hH (i := 0) rfl (fun H1 hl hh => hR.w_ifexpr_reader_unary (hG.le hl) hh hr_4) fun H' hH => ?_)
   refine uB (v := (AV.agg (cGIfexpr_unary (GIfexpr_unary.mk r_2 r_5.1)))) rfl rfl (Exact.bld (l := [(0, (sA r_2)), (1, (valA r_5.1))]) rfl rfl (bld_210 _ _)) ?_
   refine uA 1 rfl trivial ?_
   refine uB (v := (valA (GVal.un r_2 r_5.1))) rfl rfl (uZ rfl rfl) ?_
   refine WpOps.nil ?_
   obtain rfl := Sh.some_inj h
   refine WpC.ret ?_
   exact uH rfl (forceA_rfl rfl) ⟨rfl, hH⟩
theorem w_ifexpr_reader_atomF {R : ReadR} (hR : ReadOk R) {H0 H : Heap} {g_1 : Nat} (hG : Glob H0) {r_1 : GIfexpr_reader} {deep_1 : Int} (hH : Holds H0 [.cell g_1 96 (cGIfexpr_reader r_1)] H) {r : (GVal) × GIfexpr_reader} (h : ifexpr_reader_atomF R r_1 deep_1 = some r) : TCall Tryz.prog 123 [(.lit (.pointer (some ⟨g_1, 0, none⟩))), (iA deep_1)] H (fun v H' => v = (valA r.1) ∧ Holds H0 [.cell g_1 96 (cGIfexpr_reader r.2)] H') noE := by
 refine TCall.body Tryz.func123 rfl rfl ?_
 refine uC ?_
 refine uA 1 rfl trivial ?_
 refine WpOps.nil ?_
 refine WpC.seq ?_
 refine uC ?_
 obtain ⟨r_2, hr_1, h⟩ := Sh.bind_some h
 refine uA 1 rfl trivial ?_
 refine uB (v := (sA r_2)) rfl rfl (Exact.call rfl rfl rfl (w_ifexpr_reader_sign (hH.cell (i := 0) rfl) hr_1)) ?_
 refine uA 1 rfl trivial ?_
 refine WpOps.nil ?_
 refine uF rfl (fun hb => ?_) (fun hb => ?_)
 ·
  replace h := Sh.ite_pos hb h
  refine uC ?_
  obtain ⟨r_3, hr_2, h⟩ := Sh.bind_some h
  refine uA 1 rfl trivial ?_
  refine uE rfl rfl (vH (v := (.tup [])) rfl rfl rfl hH (i := 0) rfl (fun H1 hl hh => w_ifexpr_reader_needs hh hr_2) fun H' hH => ?_)
  refine WpOps.nil ?_
  refine uC ?_
  obtain ⟨r_4, hr_3, h⟩ := Sh.bind_some h
  refine uA 2 rfl trivial ?_
  refine uE rfl rfl (vH (v := (valA r_4.1)) rfl rfl rfl hH (i := 0) rfl (fun H1 hl hh => hR.w_ifexpr_reader_inner (hG.le hl) hh hr_3) fun H' hH => ?_)
  refine uB (v := (valA r_4.1)) rfl rfl (uZ rfl rfl) ?_
  refine WpOps.nil ?_
  refine uC ?_
  obtain ⟨r_5, hr_4, h⟩ := Sh.bind_some h
  refine uA 1 rfl trivial ?_
  refine uE rfl rfl (vH (v := (.tup [])) rfl rfl rfl hH (i := 0) rfl (fun H1 hl hh => w_ifexpr_reader_needs hh hr_4) fun H' hH => ?_)
  refine WpOps.nil ?_
  refine uC ?_
  refine uB (v := (valA r_4.1)) rfl rfl (wC rfl rfl) ?_
  refine uB (v := (valA r_4.1)) rfl rfl (uZ rfl rfl) ?_
  refine WpOps.nil ?_
  obtain rfl := Sh.some_inj h
  refine WpC.ret ?_
  exact uH rfl (forceA_rfl rfl) ⟨rfl, hH⟩
 ·
  replace h := Sh.ite_neg hb h
  refine uI ?_
  refine ⟨_, uD _, ?_⟩
  refine WpC.seq ?_
  refine uC ?_
  refine uA 3 rfl trivial ?_
  refine uB (v := (AV.rows 6 (List.map cGTok r_1.l))) rfl rfl (Exact.load rfl rfl (hH.cell (i := 0) rfl) rfl rfl) ?_
  refine uA 1 rfl trivial ?_
  refine uN 24 (len_map _ _) ?_
  refine uA 1 rfl trivial ?_
  refine WpOps.nil ?_
  refine uF rfl (fun hb => ?_) (fun hb => ?_)
  ·
   replace h := Sh.ite_pos hb h
   refine uC ?_
   refine uA 3 rfl trivial ?_
   refine uE rfl rfl (uQ (cs' := (cGIfexpr_reader (GIfexpr_reader.mk r_1.l true r_1.bad))) (v := (bA true)) rfl rfl hH (i := 0) rfl rfl rfl rfl rfl rfl rfl fun H' hH => ?_)
   refine WpOps.nil ?_
   refine uC ?_
   refine uA 1 rfl trivial ?_
   refine uB (v := (valA (GVal.num (0 : Int)))) rfl rfl (uZ rfl rfl) ?_
   refine WpOps.nil ?_
   obtain rfl := Sh.some_inj h
   refine WpC.ret ?_
   exact uH rfl (forceA_rfl rfl) ⟨rfl, hH⟩
  ·
   replace h := Sh.ite_neg hb h
   refine uI ?_
   refine ⟨_, uD _, ?_⟩
   refine uC ?_
   refine uA 3 rfl trivial ?_
   refine uB (v := (AV.rows 6 (List.map cGTok r_1.l))) rfl rfl (Exact.load rfl rfl (hH.cell (i := 0) rfl) rfl rfl) ?_
   obtain ⟨y_1, hy_1, h⟩ := Sh.bind_some h
   refine uB (v := (.rop (cGTok y_1))) rfl rfl (uR cGTok hy_1 rfl rfl rfl rfl (by kernel_rfl) (by decide)) ?_
   refine uB (v := (AV.agg (cGTok y_1))) rfl rfl (uG rfl rfl rfl) ?_
   refine uE rfl rfl (vC (z := cGTok (GTok.mk (0 : Int) ([] : List UInt8) (0 : Int) (0 : Int) (0 : Int) false)) rfl rfl hH fun g_2 H' hH => ?_)
   refine uE rfl rfl (uQ (cs' := (cGTok y_1)) (v := (AV.agg (cGTok y_1))) rfl rfl hH (i := 0) rfl rfl rfl rfl rfl rfl rfl fun H' hH => ?_)
   refine WpOps.nil ?_
   refine uC ?_
   refine uA 4 rfl trivial ?_
   refine uB (v := (AV.rows 6 (List.map cGTok r_1.l))) rfl rfl (Exact.load rfl rfl (hH.cell (i := 1) rfl) rfl rfl) ?_
   obtain ⟨c_1, h⟩ := Sh.chk_some h
   refine uA 1 rfl (show 0 ≤ (1 : Int) ∧ True ∧ True ∧ ((1 : Int)).toNat ≤ (List.map cGTok r_1.l).length ∧ True from ⟨(by omega), trivial, trivial, (by simp only [List.length_map]; omega), trivial⟩) ?_
   refine uN 41 (rows_drop 6 cGTok r_1.l _) ?_
   refine uA 2 rfl trivial ?_
   refine uE rfl rfl (uQ (cs' := (cGIfexpr_reader (GIfexpr_reader.mk (r_1.l.drop ((1 : Int)).toNat) r_1.wrong r_1.bad))) (v := (AV.rows 6 (List.map cGTok (r_1.l.drop ((1 : Int)).toNat)))) rfl rfl hH (i := 1) rfl rfl rfl rfl rfl rfl rfl fun H' hH => ?_)
   refine WpOps.nil ?_
   refine uC ?_
   refine uA 2 rfl trivial ?_
   refine WpOps.nil ?_
   refine vG (fun x : (Int × Int × GIfexpr_reader) × (Unit) => [(0, (.lit (.pointer (some ⟨g_1, 0, none⟩)))), (7, (iA x.1.1)), (8, (iA x.1.2.1))]) (fun x H' => (ifexpr_reader_atom_j1 R) x.1 = some r ∧ Holds H0 [.cell g_1 96 (cGIfexpr_reader x.1.2.2)] H') ?_ ?_
   ·
    refine uC ?_
    refine uA 1 rfl trivial ?_
    refine uB (v := (iA y_1.kind)) rfl rfl (Exact.load rfl rfl (hH.cell (i := 0) rfl) rfl rfl) ?_
    refine WpOps.nil ?_
    refine WpC.block ?_
    refine uC ?_
    refine uA 2 rfl trivial ?_
    refine WpOps.nil ?_
    refine uF rfl (fun hb => ?_) (fun hb => ?_)
    ·
     replace h := Sh.ite_pos hb h
     refine uJ ?_
     refine uA 1 rfl trivial ?_
     refine uB (v := (sA y_1.text)) rfl rfl (Exact.load rfl rfl (hH.cell (i := 0) rfl) rfl rfl) ?_
     obtain ⟨r_6, hr_5, h⟩ := Sh.bind_some h
     refine uB (v := (.tup [(iA r_6.1), (iA r_6.2)])) rfl rfl (Exact.call rfl rfl rfl (w_ifexpr_Number hr_5)) ?_
     refine uA 5 rfl trivial ?_
     refine WpOps.nil ?_
     obtain ⟨_, hle_1, hH⟩ := hH.lose_ (i := 0) rfl
     exact ⟨_, hle_1, ((r_6.1, r_6.2, (GIfexpr_reader.mk (r_1.l.drop ((1 : Int)).toNat) r_1.wrong r_1.bad)), ()), ⟨rfl, rfl, rfl, trivial⟩, h, hH⟩
    ·
     replace h := Sh.ite_neg hb h
     refine uC ?_
     refine uA 2 rfl trivial ?_
     refine WpOps.nil ?_
     refine uF rfl (fun hb => ?_) (fun hb => ?_)
     ·
      replace h := Sh.ite_pos hb h
      refine uJ ?_
      refine uA 1 rfl trivial ?_
      refine uB (v := (sA y_1.text)) rfl rfl (Exact.load rfl rfl (hH.cell (i := 0) rfl) rfl rfl) ?_
      obtain ⟨r_7, hr_6, h⟩ := Sh.bind_some h
      refine uB (v := (.tup [(iA r_7.1), (iA r_7.2)])) rfl rfl (Exact.call rfl rfl rfl (w_ifexpr_Quote hr_6)) ?_
      refine uA 5 rfl trivial ?_
      refine WpOps.nil ?_
      obtain ⟨_, hle_2, hH⟩ := hH.lose_ (i := 0) rfl
      exact ⟨_, hle_2, ((r_7.1, r_7.2, (GIfexpr_reader.mk (r_1.l.drop ((1 : Int)).toNat) r_1.wrong r_1.bad)), ()), ⟨rfl, rfl, rfl, trivial⟩, h, hH⟩
     ·
      replace h := Sh.ite_neg hb h
      refine uC ?_
      refine uA 2 rfl trivial ?_
      refine WpOps.nil ?_
      refine uF rfl (fun hb => ?_) (fun hb => ?_)
      ·
       replace h := Sh.ite_pos hb h
       refine uI ?_
       obtain ⟨_, hle_3, hH⟩ := hH.lose_ (i := 0) rfl
       exact ⟨_, hle_3, (((0 : Int), (0 : Int), (GIfexpr_reader.mk (r_1.l.drop ((1 : Int)).toNat) r_1.wrong r_1.bad)), ()), ⟨rfl, rfl, rfl, trivial⟩, h, hH⟩
      ·
       replace h := Sh.ite_neg hb h
       refine uJ ?_
       refine uA 3 rfl trivial ?_
       refine uE rfl rfl (uQ (cs' := (cGIfexpr_reader (GIfexpr_reader.mk (r_1.l.drop ((1 : Int)).toNat) true r_1.bad))) (v := (bA true)) rfl rfl hH (i := 1) rfl rfl rfl rfl rfl rfl rfl fun H' hH => ?_)
       refine WpOps.nil ?_
       obtain ⟨_, hle_4, hH⟩ := hH.lose_ (i := 0) rfl
       exact ⟨_, hle_4, (((0 : Int), (0 : Int), (GIfexpr_reader.mk (r_1.l.drop ((1 : Int)).toNat) true r_1.bad)), ()), ⟨rfl, rfl, rfl, trivial⟩, h, hH⟩
   ·
    rintro ⟨⟨n_1, e_1, r_8⟩, _⟩ env H' ⟨h, hH⟩
    try dsimp only at h
    refine vG (fun x : (GIfexpr_reader) × (Unit) => [(7, (iA n_1))]) (fun x H' => ((ifexpr_reader_atom_j2 R) n_1) x.1 = some r ∧ Holds H0 [.cell g_1 96 (cGIfexpr_reader x.1)] H') ?_ ?_
    ·
     refine uC ?_
     refine uA 3 rfl trivial ?_
     refine uB (v := (iA r_8.bad)) rfl rfl (Exact.load rfl rfl (hH.cell (i := 0) rfl) rfl rfl) ?_
     refine uA 1 rfl trivial ?_
     refine WpOps.nil ?_
     refine uF rfl (fun hb => ?_) (fun hb => ?_)
     ·
      replace h := Sh.ite_pos hb h
      refine uJ ?_
      refine uA 4 rfl trivial ?_
      refine uE rfl rfl (uQ (cs' := (cGIfexpr_reader (GIfexpr_reader.mk r_8.l r_8.wrong e_1))) (v := (iA e_1)) rfl rfl hH (i := 0) rfl rfl rfl rfl rfl rfl rfl fun H' hH => ?_)
      refine WpOps.nil ?_
      exact ⟨_, (uD _), ((GIfexpr_reader.mk r_8.l r_8.wrong e_1), ()), ⟨rfl, trivial⟩, h, hH⟩
     ·
      replace h := Sh.ite_neg hb h
      refine uI ?_
      exact ⟨_, (uD _), (r_8, ()), ⟨rfl, trivial⟩, h, hH⟩
    ·
     rintro ⟨r_9, _⟩ env H' ⟨h, hH⟩
     try dsimp only at h
     refine uC ?_
     refine uA 2 rfl trivial ?_
     refine uB (v := (valA (GVal.num n_1))) rfl rfl (uZ rfl rfl) ?_
     refine WpOps.nil ?_
     obtain rfl := Sh.some_inj h
     refine WpC.ret ?_
     exact uH rfl (forceA_rfl rfl) ⟨rfl, hH⟩
theorem readN_ok : ∀ n, ReadOk (readN n)
  | 0 => by constructor <;> (intros; rename (none = some _) => h; cases h)
  | n + 1 => by
    constructor
    · intros; first | exact w_ifexpr_reader_choiceF (readN_ok n) (by assumption) (by assumption) (by assumption) | exact w_ifexpr_reader_choiceF (readN_ok n) (by assumption) (by assumption) | exact w_ifexpr_reader_choiceF (readN_ok n) (by assumption)
    · intros; first | exact w_ifexpr_reader_innerF (readN_ok n) (by assumption) (by assumption) (by assumption) | exact w_ifexpr_reader_innerF (readN_ok n) (by assumption) (by assumption) | exact w_ifexpr_reader_innerF (readN_ok n) (by assumption)
    · intros; first | exact w_ifexpr_reader_binaryF (readN_ok n) (by assumption) (by assumption) (by assumption) | exact w_ifexpr_reader_binaryF (readN_ok n) (by assumption) (by assumption) | exact w_ifexpr_reader_binaryF (readN_ok n) (by assumption)
    · intros; first | exact w_ifexpr_reader_unaryF (readN_ok n) (by assumption) (by assumption) (by assumption) | exact w_ifexpr_reader_unaryF (readN_ok n) (by assumption) (by assumption) | exact w_ifexpr_reader_unaryF (readN_ok n) (by assumption)
    · intros; first | exact w_ifexpr_reader_atomF (readN_ok n) (by assumption) (by assumption) (by assumption) | exact w_ifexpr_reader_atomF (readN_ok n) (by assumption) (by assumption) | exact w_ifexpr_reader_atomF (readN_ok n) (by assumption)
theorem w_ifexpr_reader_choice {H0 H : Heap} {g_1 : Nat} (hG : Glob H0) {r_1 : GIfexpr_reader} {deep_1 : Int} (hH : Holds H0 [.cell g_1 96 (cGIfexpr_reader r_1)] H) {r : (GVal) × GIfexpr_reader} (h : ifexpr_reader_choice r_1 deep_1 = some r) : TCall Tryz.prog 38 [(.lit (.pointer (some ⟨g_1, 0, none⟩))), (iA deep_1)] H (fun v H' => v = (valA r.1) ∧ Holds H0 [.cell g_1 96 (cGIfexpr_reader r.2)] H') noE := (readN_ok 2000).w_ifexpr_reader_choice hG hH h
theorem w_ifexpr_reader_inner {H0 H : Heap} {g_1 : Nat} (hG : Glob H0) {r_1 : GIfexpr_reader} {deep_1 : Int} (hH : Holds H0 [.cell g_1 96 (cGIfexpr_reader r_1)] H) {r : (GVal) × GIfexpr_reader} (h : ifexpr_reader_inner r_1 deep_1 = some r) : TCall Tryz.prog 74 [(.lit (.pointer (some ⟨g_1, 0, none⟩))), (iA deep_1)] H (fun v H' => v = (valA r.1) ∧ Holds H0 [.cell g_1 96 (cGIfexpr_reader r.2)] H') noE := (readN_ok 2000).w_ifexpr_reader_inner hG hH h
theorem w_ifexpr_reader_binary {H0 H : Heap} {g_1 : Nat} (hG : Glob H0) {r_1 : GIfexpr_reader} {least_1 : Int} {deep_1 : Int} (hH : Holds H0 [.cell g_1 96 (cGIfexpr_reader r_1)] H) {r : (GVal) × GIfexpr_reader} (h : ifexpr_reader_binary r_1 least_1 deep_1 = some r) : TCall Tryz.prog 71 [(.lit (.pointer (some ⟨g_1, 0, none⟩))), (iA least_1), (iA deep_1)] H (fun v H' => v = (valA r.1) ∧ Holds H0 [.cell g_1 96 (cGIfexpr_reader r.2)] H') noE := (readN_ok 2000).w_ifexpr_reader_binary hG hH h
theorem w_ifexpr_reader_unary {H0 H : Heap} {g_1 : Nat} (hG : Glob H0) {r_1 : GIfexpr_reader} {deep_1 : Int} (hH : Holds H0 [.cell g_1 96 (cGIfexpr_reader r_1)] H) {r : (GVal) × GIfexpr_reader} (h : ifexpr_reader_unary r_1 deep_1 = some r) : TCall Tryz.prog 104 [(.lit (.pointer (some ⟨g_1, 0, none⟩))), (iA deep_1)] H (fun v H' => v = (valA r.1) ∧ Holds H0 [.cell g_1 96 (cGIfexpr_reader r.2)] H') noE := (readN_ok 2000).w_ifexpr_reader_unary hG hH h
theorem w_ifexpr_reader_atom {H0 H : Heap} {g_1 : Nat} (hG : Glob H0) {r_1 : GIfexpr_reader} {deep_1 : Int} (hH : Holds H0 [.cell g_1 96 (cGIfexpr_reader r_1)] H) {r : (GVal) × GIfexpr_reader} (h : ifexpr_reader_atom r_1 deep_1 = some r) : TCall Tryz.prog 123 [(.lit (.pointer (some ⟨g_1, 0, none⟩))), (iA deep_1)] H (fun v H' => v = (valA r.1) ∧ Holds H0 [.cell g_1 96 (cGIfexpr_reader r.2)] H') noE := (readN_ok 2000).w_ifexpr_reader_atom hG hH h
theorem w_ifexpr_Eval {H0 : Heap} (hG : Glob H0) {l_1 : List GTok} {r : Int × Int} (h : ifexpr_Eval l_1 = some r) : TCall Tryz.prog 18 [(AV.rows 6 (List.map cGTok l_1))] H0 (fun v H' => v = (.tup [(iA r.1), (iA r.2)]) ∧ H' = H0) noE := by
 refine id (TCall.body Tryz.func18 rfl rfl ?_)
 have hH : Holds H0 [] H0 := rfl
 refine uC ?_
 refine uA 2 rfl trivial ?_
 refine WpOps.nil ?_
 refine uC ?_
 obtain ⟨c_1, h⟩ := Sh.chk_some h
 refine uA 1 rfl trivial ?_
 refine uE rfl rfl (WpO.callO (t := 50) (size := 6) (es := List.map cGTok l_1) rfl rfl rfl hH (w_slices_Clone_Lapi_Tok_api_Tok c_1) fun p_1 H' hH => ?_)
 obtain ⟨c_2, h⟩ := Sh.chk_some h
 obtain ⟨d_1, hd_1, h⟩ := Sh.bind_some h
 refine uE rfl rfl (WpO.callTF (es' := List.map cGTok d_1) rfl rfl rfl hH (i := 0) rfl (fun H1 hl hh => w_DeleteFuncET (by kernel_rfl) (fun H y b hb => w_ifexpr_Eval_c1 hb) hd_1 (Nat.le_trans (Nat.le_of_lt c_2) (by decide)) hh) fun H' hH => ?_)
 refine uA 1 rfl trivial ?_
 refine uE rfl rfl (vF (v := (AV.agg (cGIfexpr_reader (GIfexpr_reader.mk d_1 false (0 : Int))))) rfl rfl hH fun g_1 H' hH => ?_)
 refine uA 1 rfl trivial ?_
 refine WpOps.nil ?_
 refine uC ?_
 obtain ⟨r_1, hr_1, h⟩ := Sh.bind_some h
 refine uA 1 rfl trivial ?_
 refine uE rfl rfl (vH (v := (valA r_1.1)) rfl rfl rfl hH (i := 0) rfl (fun H1 hl hh => w_ifexpr_reader_choice (hG.le hl) hh hr_1) fun H' hH => ?_)
 refine uB (v := (valA r_1.1)) rfl rfl (uZ rfl rfl) ?_
 refine WpOps.nil ?_
 refine WpC.seq ?_
 refine WpC.block ?_
 refine uC ?_
 refine uA 3 rfl trivial ?_
 refine uB (v := (bA r_1.2.wrong)) rfl rfl (Exact.load rfl rfl (hH.cell (i := 0) rfl) rfl rfl) ?_
 obtain ⟨b_1, g_2, h⟩ := Sh.bind_some h
 refine uM 8 25 (bA b_1) rfl ?_ ?_
 ·
  refine uA 1 rfl trivial ?_
  refine uL 18 rfl (fun hb => ?_) (fun hb => ?_)
  ·
   replace g_2 := Sh.ite_pos hb g_2
   refine uA 7 rfl trivial ?_
   refine WpOps.nil ?_
   obtain rfl := Sh.some_inj g_2
   exact ⟨rfl, rfl⟩
  ·
   replace g_2 := Sh.ite_neg hb g_2
   refine uA 3 rfl trivial ?_
   refine uB (v := (AV.rows 6 (List.map cGTok r_1.2.l))) rfl rfl (Exact.load rfl rfl (hH.cell (i := 0) rfl) rfl rfl) ?_
   refine uA 1 rfl trivial ?_
   refine uN 23 (len_map _ _) ?_
   refine uA 2 rfl trivial ?_
   refine WpOps.nil ?_
   obtain rfl := Sh.some_inj g_2
   exact ⟨rfl, rfl⟩
 intro env
 refine uA 1 rfl trivial ?_
 refine WpOps.nil ?_
 refine uF rfl (fun hb => ?_) (fun hb => ?_)
 ·
  replace h := Sh.ite_pos hb h
  refine uC ?_
  refine uA 2 rfl trivial ?_
  refine WpOps.nil ?_
  refine uP (i := 0) hH rfl (fun H' hH => ?_)
  obtain rfl := Sh.some_inj h
  refine WpC.ret ?_
  exact uU rfl rfl rfl ⟨rfl, hH⟩
 ·
  replace h := Sh.ite_neg hb h
  refine uC ?_
  refine uA 3 rfl trivial ?_
  refine uB (v := (iA r_1.2.bad)) rfl rfl (Exact.load rfl rfl (hH.cell (i := 0) rfl) rfl rfl) ?_
  refine uA 2 rfl trivial ?_
  refine WpOps.nil ?_
  refine uF rfl (fun hb => ?_) (fun hb => ?_)
  ·
   replace h := Sh.ite_pos hb h
   refine vO [.I, .I, .I, .S] [0, 1, 2, 3, 4, 5] (by kernel_rfl) (by kernel_rfl) ?_
   refine uK 3 rfl trivial ?_
   refine uT (v := (iA r_1.2.bad)) rfl rfl rfl rfl (Exact.load rfl rfl (hH.cell (i := 0) rfl) rfl rfl) ?_
   refine uK 2 rfl trivial ?_
   refine WpPi.nil ?_
   refine uP (i := 0) hH rfl (fun H' hH => ?_)
   obtain rfl := Sh.some_inj h
   refine WpC.ret ?_
   exact uU rfl rfl rfl ⟨rfl, hH⟩
  ·
   replace h := Sh.ite_neg hb h
   refine uI ?_
   refine ⟨_, uD _, ?_⟩
   refine uC ?_
   refine uB (v := (valA r_1.1)) rfl rfl (wC rfl rfl) ?_
   obtain ⟨r_2, hr_2, h⟩ := Sh.bind_some h
   refine uB (v := (.tup [(iA r_2.1), (iA r_2.2)])) rfl rfl (ex_comesV rfl rfl hr_2) ?_
   refine uA 4 rfl trivial ?_
   refine WpOps.nil ?_
   refine uP (i := 0) hH rfl (fun H' hH => ?_)
   obtain rfl := Sh.some_inj h
   refine WpC.ret ?_
   exact uU rfl rfl rfl ⟨rfl, hH⟩
theorem w_unit_alone {H0 : Heap} {l_1 : List GTok} {r : List UInt8 × Bool} (h : unit_alone l_1 = some r) : TCall Tryz.prog 114 [(AV.rows 6 (List.map cGTok l_1))] H0 (fun v H' => v = (.tup [(sA r.1), (bA r.2)]) ∧ H' = H0) noE := by
 refine id (TCall.body Tryz.func114 rfl rfl ?_)
 have hH : Holds H0 [] H0 := rfl
 refine uC ?_
 refine uA 2 rfl trivial ?_
 refine WpOps.nil ?_
 refine WpC.seq ?_
 refine uC ?_
 refine uA 2 rfl trivial ?_
 refine uN 5 (len_map _ _) ?_
 refine uA 1 rfl trivial ?_
 obtain ⟨b_1, g_1, h⟩ := Sh.bind_some h
 refine uM 7 13 (bA b_1) rfl ?_ ?_
 ·
  refine uA 1 rfl trivial ?_
  refine uL 7 rfl (fun hb => ?_) (fun hb => ?_)
  ·
   replace g_1 := Sh.ite_pos hb g_1
   refine uA 6 rfl trivial ?_
   refine WpOps.nil ?_
   obtain rfl := Sh.some_inj g_1
   exact ⟨rfl, rfl⟩
  ·
   replace g_1 := Sh.ite_neg hb g_1
   obtain ⟨y_1, hy_1, g_1⟩ := Sh.bind_some g_1
   refine uA 1 rfl trivial ?_
   refine uB (v := (.rop (cGTok y_1))) rfl rfl (uR cGTok hy_1 rfl rfl rfl rfl (by kernel_rfl) (by decide)) ?_
   refine uA 1 rfl trivial ?_
   refine uB (v := (iA y_1.kind)) rfl rfl (uG rfl rfl rfl) ?_
   refine uA 2 rfl trivial ?_
   refine WpOps.nil ?_
   obtain rfl := Sh.some_inj g_1
   exact ⟨rfl, rfl⟩
 intro env
 refine WpOps.nil ?_
 refine uF rfl (fun hb => ?_) (fun hb => ?_)
 ·
  replace h := Sh.ite_pos hb h
  refine uC ?_
  refine uA 2 rfl trivial ?_
  refine WpOps.nil ?_
  obtain rfl := Sh.some_inj h
  refine WpC.ret ?_
  exact uU rfl rfl rfl ⟨rfl, hH⟩
 ·
  replace h := Sh.ite_neg hb h
  refine uI ?_
  refine ⟨_, uD _, ?_⟩
  refine uC ?_
  obtain ⟨y_2, hy_2, h⟩ := Sh.bind_some h
  refine uA 1 rfl trivial ?_
  refine uB (v := (.rop (cGTok y_2))) rfl rfl (uR cGTok hy_2 rfl rfl rfl rfl (by kernel_rfl) (by decide)) ?_
  refine uA 1 rfl trivial ?_
  refine uB (v := (sA y_2.text)) rfl rfl (uG rfl rfl rfl) ?_
  refine uA 2 rfl trivial ?_
  refine WpOps.nil ?_
  obtain rfl := Sh.some_inj h
  refine WpC.ret ?_
  exact uU rfl rfl rfl ⟨rfl, hH⟩
theorem w_expand_token_hides {H0 : Heap} {t_1 : GExpand_token} {name_1 : List UInt8} {r : Bool} (h : expand_token_hides t_1 name_1 = some r) : TCall Tryz.prog 150 [(AV.agg (cGExpand_token t_1)), (sA name_1)] H0 (fun v H' => v = (bA r) ∧ H' = H0) noE := by
 refine id (TCall.body Tryz.func150 rfl rfl ?_)
 have hH : Holds H0 [] H0 := rfl
 refine uC ?_
 refine uE rfl rfl (vF (v := (AV.agg (cGExpand_token t_1))) rfl rfl hH fun g_1 H' hH => ?_)
 refine uA 1 rfl trivial ?_
 refine WpOps.nil ?_
 refine uC ?_
 refine uA 1 rfl trivial ?_
 refine uB (v := (AV.rows 1 (List.map cS t_1.hide))) rfl rfl (Exact.load rfl rfl (hH.cell (i := 0) rfl) rfl rfl) ?_
 obtain ⟨r_1, hr_1, h⟩ := Sh.bind_some h
 refine uA 1 rfl trivial ?_
 refine uB (v := (bA r_1)) rfl rfl (Exact.call rfl rfl rfl (w_slices_Contains_Lstring_string hr_1)) ?_
 refine uA 1 rfl trivial ?_
 refine WpOps.nil ?_
 refine uP (i := 0) hH rfl (fun H' hH => ?_)
 obtain rfl := Sh.some_inj h
 refine WpC.ret ?_
 exact uH rfl rfl ⟨rfl, hH⟩
theorem w_expand_token_sign {H0 : Heap} {t_1 : GExpand_token} {s_1 : List UInt8} {r : Bool} (h : expand_token_sign t_1 s_1 = some r) : TCall Tryz.prog 151 [(AV.agg (cGExpand_token t_1)), (sA s_1)] H0 (fun v H' => v = (bA r) ∧ H' = H0) noE := by
 refine id (TCall.body Tryz.func151 rfl rfl ?_)
 have hH : Holds H0 [] H0 := rfl
 refine uC ?_
 refine uE rfl rfl (vF (v := (AV.agg (cGExpand_token t_1))) rfl rfl hH fun g_1 H' hH => ?_)
 refine uA 1 rfl trivial ?_
 refine WpOps.nil ?_
 refine uC ?_
 refine uA 1 rfl trivial ?_
 refine uB (v := (bA t_1.mark)) rfl rfl (Exact.load rfl rfl (hH.cell (i := 0) rfl) rfl rfl) ?_
 refine uA 1 rfl trivial ?_
 obtain ⟨b_1, g_2, h⟩ := Sh.bind_some h
 refine uM 6 13 (bA b_1) rfl ?_ ?_
 ·
  refine uA 1 rfl trivial ?_
  refine uL 8 rfl (fun hb => ?_) (fun hb => ?_)
  ·
   replace g_2 := Sh.ite_pos hb g_2
   refine uA 2 rfl trivial ?_
   refine uB (v := (iA t_1.tok.kind)) rfl rfl (Exact.load rfl rfl (hH.cell (i := 0) rfl) rfl rfl) ?_
   refine uA 2 rfl trivial ?_
   refine WpOps.nil ?_
   obtain rfl := Sh.some_inj g_2
   exact ⟨rfl, rfl⟩
  ·
   replace g_2 := Sh.ite_neg hb g_2
   refine uA 5 rfl trivial ?_
   refine WpOps.nil ?_
   obtain rfl := Sh.some_inj g_2
   exact ⟨rfl, rfl⟩
 intro env
 obtain ⟨b_2, g_3, h⟩ := Sh.bind_some h
 refine uM 7 20 (bA b_2) rfl ?_ ?_
 ·
  refine uA 1 rfl trivial ?_
  refine uL 14 rfl (fun hb => ?_) (fun hb => ?_)
  ·
   replace g_3 := Sh.ite_pos hb g_3
   refine uA 2 rfl trivial ?_
   refine uB (v := (sA t_1.tok.text)) rfl rfl (Exact.load rfl rfl (hH.cell (i := 0) rfl) rfl rfl) ?_
   refine uA 3 rfl trivial ?_
   refine WpOps.nil ?_
   obtain rfl := Sh.some_inj g_3
   exact ⟨rfl, rfl⟩
  ·
   replace g_3 := Sh.ite_neg hb g_3
   refine uA 6 rfl trivial ?_
   refine WpOps.nil ?_
   obtain rfl := Sh.some_inj g_3
   exact ⟨rfl, rfl⟩
 intro env
 refine uA 1 rfl trivial ?_
 refine WpOps.nil ?_
 refine uP (i := 0) hH rfl (fun H' hH => ?_)
 obtain rfl := Sh.some_inj h
 refine WpC.ret ?_
 exact uH rfl rfl ⟨rfl, hH⟩
theorem w_expand_parted {H0 : Heap} {l_1 : List GExpand_token} {r : List (List GExpand_token) × List GExpand_token × Int} (h : expand_parted l_1 = some r) : TCall Tryz.prog 173 [(AV.rows 9 (List.map cGExpand_token l_1))] H0 (fun v H' => v = (.tup [(AV.rows 1 (List.map (cL 9 cGExpand_token) r.1)), (AV.rows 9 (List.map cGExpand_token r.2.1)), (iA r.2.2)]) ∧ H' = H0) noE := by
  unfold expand_parted at h; cases h
theorem w_expand_both {H0 : Heap} {a_1 : List (List UInt8)} {b_1 : List (List UInt8)} {r : List (List UInt8)} (h : expand_both a_1 b_1 = some r) : TCall Tryz.prog 174 [(AV.rows 1 (List.map cS a_1)), (AV.rows 1 (List.map cS b_1))] H0 (fun v H' => v = (AV.rows 1 (List.map cS r)) ∧ H' = H0) noE := by
  unfold expand_both at h; cases h
theorem w_expand_shared {H0 : Heap} {m_1 : GMacro} {args_1 : List (List GExpand_token)} {commas_1 : List GExpand_token} {r : List (List GExpand_token) × Int} (h : expand_shared m_1 args_1 commas_1 = some r) : TCall Tryz.prog 175 [(AV.agg (cGMacro m_1)), (AV.rows 1 (List.map (cL 9 cGExpand_token) args_1)), (AV.rows 9 (List.map cGExpand_token commas_1))] H0 (fun v H' => v = (.tup [(AV.rows 1 (List.map (cL 9 cGExpand_token) r.1)), (iA r.2)]) ∧ H' = H0) noE := by
  unfold expand_shared at h; cases h
theorem w_macro_Param {H0 : Heap} {m_1 : GMacro} {name_1 : List UInt8} {r : Int} (h : macro_Param m_1 name_1 = some r) : TCall Tryz.prog 159 [(AV.agg (cGMacro m_1)), (sA name_1)] H0 (fun v H' => v = (iA r) ∧ H' = H0) noE := by
 refine id (TCall.body Tryz.func159 rfl rfl ?_)
 have hH : Holds H0 [] H0 := rfl
 refine uC ?_
 refine uE rfl rfl (vF (v := (AV.agg (cGMacro m_1))) rfl rfl hH fun g_1 H' hH => ?_)
 refine uA 1 rfl trivial ?_
 refine WpOps.nil ?_
 refine WpC.seq ?_
 refine uC ?_
 refine uA 1 rfl trivial ?_
 refine uB (v := (bA m_1.variadic)) rfl rfl (Exact.load rfl rfl (hH.cell (i := 0) rfl) rfl rfl) ?_
 obtain ⟨b_1, g_2, h⟩ := Sh.bind_some h
 refine uM 4 10 (bA b_1) rfl ?_ ?_
 ·
  refine uA 1 rfl trivial ?_
  refine uL 7 rfl (fun hb => ?_) (fun hb => ?_)
  ·
   replace g_2 := Sh.ite_pos hb g_2
   refine uA 3 rfl trivial ?_
   refine WpOps.nil ?_
   obtain rfl := Sh.some_inj g_2
   exact ⟨rfl, rfl⟩
  ·
   replace g_2 := Sh.ite_neg hb g_2
   refine uA 3 rfl trivial ?_
   refine WpOps.nil ?_
   obtain rfl := Sh.some_inj g_2
   exact ⟨rfl, rfl⟩
 intro env
 refine WpOps.nil ?_
 refine uF rfl (fun hb => ?_) (fun hb => ?_)
 ·
  replace h := Sh.ite_pos hb h
  refine uC ?_
  refine uA 1 rfl trivial ?_
  refine uB (v := (AV.rows 1 (List.map cS m_1.params))) rfl rfl (Exact.load rfl rfl (hH.cell (i := 0) rfl) rfl rfl) ?_
  refine uA 1 rfl trivial ?_
  refine uN 13 (len_map _ _) ?_
  refine uA 1 rfl trivial ?_
  refine WpOps.nil ?_
  refine uP (i := 0) hH rfl (fun H' hH => ?_)
  obtain rfl := Sh.some_inj h
  refine WpC.ret ?_
  exact uH rfl rfl ⟨rfl, hH⟩
 ·
  replace h := Sh.ite_neg hb h
  refine uI ?_
  refine ⟨_, uD _, ?_⟩
  refine uC ?_
  refine uA 1 rfl trivial ?_
  refine uB (v := (AV.rows 1 (List.map cS m_1.params))) rfl rfl (Exact.load rfl rfl (hH.cell (i := 0) rfl) rfl rfl) ?_
  obtain ⟨r_1, hr_1, h⟩ := Sh.bind_some h
  refine uA 1 rfl trivial ?_
  refine uB (v := (iA r_1)) rfl rfl (Exact.call rfl rfl rfl (w_slices_Index_Lstring_string hr_1)) ?_
  refine uA 1 rfl trivial ?_
  refine WpOps.nil ?_
  refine uP (i := 0) hH rfl (fun H' hH => ?_)
  obtain rfl := Sh.some_inj h
  refine WpC.ret ?_
  exact uH rfl rfl ⟨rfl, hH⟩
theorem w_expand_place {H0 : Heap} {m_1 : GMacro} {i_1 : Int} {r : Int} (h : expand_place m_1 i_1 = some r) : TCall Tryz.prog 194 [(AV.agg (cGMacro m_1)), (iA i_1)] H0 (fun v H' => v = (iA r) ∧ H' = H0) noE := by
 refine id (TCall.body Tryz.func194 rfl rfl ?_)
 have hH : Holds H0 [] H0 := rfl
 refine uC ?_
 refine uE rfl rfl (vF (v := (AV.agg (cGMacro m_1))) rfl rfl hH fun g_1 H' hH => ?_)
 refine uA 1 rfl trivial ?_
 refine WpOps.nil ?_
 refine WpC.seq ?_
 refine uC ?_
 refine uA 2 rfl trivial ?_
 obtain ⟨b_1, g_2, h⟩ := Sh.bind_some h
 refine uM 7 13 (bA b_1) rfl ?_ ?_
 ·
  refine uA 1 rfl trivial ?_
  refine uL 7 rfl (fun hb => ?_) (fun hb => ?_)
  ·
   replace g_2 := Sh.ite_pos hb g_2
   refine uA 6 rfl trivial ?_
   refine WpOps.nil ?_
   obtain rfl := Sh.some_inj g_2
   exact ⟨rfl, rfl⟩
  ·
   replace g_2 := Sh.ite_neg hb g_2
   refine uA 2 rfl trivial ?_
   refine uB (v := (AV.rows 6 (List.map cGTok m_1.body))) rfl rfl (Exact.load rfl rfl (hH.cell (i := 0) rfl) rfl rfl) ?_
   refine uA 1 rfl trivial ?_
   refine uN 11 (len_map _ _) ?_
   refine uA 2 rfl trivial ?_
   refine WpOps.nil ?_
   obtain rfl := Sh.some_inj g_2
   exact ⟨rfl, rfl⟩
 intro env
 obtain ⟨b_2, g_3, h⟩ := Sh.bind_some h
 refine uM 9 22 (bA b_2) rfl ?_ ?_
 ·
  refine uA 1 rfl trivial ?_
  refine uL 14 rfl (fun hb => ?_) (fun hb => ?_)
  ·
   replace g_3 := Sh.ite_pos hb g_3
   refine uA 8 rfl trivial ?_
   refine WpOps.nil ?_
   obtain rfl := Sh.some_inj g_3
   exact ⟨rfl, rfl⟩
  ·
   replace g_3 := Sh.ite_neg hb g_3
   refine uA 1 rfl trivial ?_
   refine uB (v := (AV.rows 6 (List.map cGTok m_1.body))) rfl rfl (Exact.load rfl rfl (hH.cell (i := 0) rfl) rfl rfl) ?_
   obtain ⟨y_1, hy_1, g_3⟩ := Sh.bind_some g_3
   refine uA 1 rfl trivial ?_
   refine uB (v := (.rop (cGTok y_1))) rfl rfl (uR cGTok hy_1 rfl rfl rfl rfl (by kernel_rfl) (by decide)) ?_
   refine uA 1 rfl trivial ?_
   refine uB (v := (iA y_1.kind)) rfl rfl (uG rfl rfl rfl) ?_
   refine uA 2 rfl trivial ?_
   refine WpOps.nil ?_
   obtain rfl := Sh.some_inj g_3
   exact ⟨rfl, rfl⟩
 intro env
 obtain ⟨b_3, g_4, h⟩ := Sh.bind_some h
 refine uM 5 27 (bA b_3) rfl ?_ ?_
 ·
  refine uA 1 rfl trivial ?_
  refine uL 23 rfl (fun hb => ?_) (fun hb => ?_)
  ·
   replace g_4 := Sh.ite_pos hb g_4
   refine uA 4 rfl trivial ?_
   refine WpOps.nil ?_
   obtain rfl := Sh.some_inj g_4
   exact ⟨rfl, rfl⟩
  ·
   replace g_4 := Sh.ite_neg hb g_4
   refine uA 1 rfl trivial ?_
   refine uB (v := (bA m_1.func)) rfl rfl (Exact.load rfl rfl (hH.cell (i := 0) rfl) rfl rfl) ?_
   refine uA 2 rfl trivial ?_
   refine WpOps.nil ?_
   obtain rfl := Sh.some_inj g_4
   exact ⟨rfl, rfl⟩
 intro env
 refine WpOps.nil ?_
 refine uF rfl (fun hb => ?_) (fun hb => ?_)
 ·
  replace h := Sh.ite_pos hb h
  refine uC ?_
  refine uA 1 rfl trivial ?_
  refine WpOps.nil ?_
  refine uP (i := 0) hH rfl (fun H' hH => ?_)
  obtain rfl := Sh.some_inj h
  refine WpC.ret ?_
  exact uH rfl rfl ⟨rfl, hH⟩
 ·
  replace h := Sh.ite_neg hb h
  refine uI ?_
  refine ⟨_, uD _, ?_⟩
  refine vO [.S, .I, .S] [0, 1, 2, 3, 4, 5, 6, 7, 8] (by kernel_rfl) (by kernel_rfl) ?_
  refine uT (v := (AV.agg (cGMacro m_1))) rfl rfl rfl rfl (Exact.load rfl rfl (hH.cell (i := 0) rfl) rfl rfl) ?_
  refine uK 1 rfl trivial ?_
  refine uT (v := (AV.rows 6 (List.map cGTok m_1.body))) rfl rfl rfl rfl (Exact.load rfl rfl (hH.cell (i := 0) rfl) rfl rfl) ?_
  obtain ⟨y_2, hy_2, h⟩ := Sh.bind_some h
  refine uK 1 rfl trivial ?_
  refine uV (v := (.rop (cGTok y_2))) rfl rfl rfl rfl (fun _ => uR cGTok hy_2 rfl rfl rfl rfl (by kernel_rfl) (by decide)) ?_
  refine uK 1 rfl trivial ?_
  refine uV (v := (sA y_2.text)) rfl rfl rfl rfl (fun _ => uG rfl rfl rfl) ?_
  obtain ⟨r_1, hr_1, h⟩ := Sh.bind_some h
  refine uV (v := (iA r_1)) rfl rfl rfl rfl (fun _ => Exact.call rfl rfl rfl (w_macro_Param hr_1)) ?_
  refine uK 1 rfl trivial ?_
  refine WpPi.nil ?_
  refine uP (i := 0) hH rfl (fun H' hH => ?_)
  obtain rfl := Sh.some_inj h
  refine WpC.ret ?_
  exact uH rfl rfl ⟨rfl, hH⟩
theorem w_expand_pastes_c1 {H0 : Heap} {k_1 : Int} {t1_1 : GMacro} {r : Bool} (h : expand_pastes_c1 k_1 t1_1 = some r) : TCall Tryz.prog 203 [(iA k_1), (.rop (cGMacro t1_1))] H0 (fun v H' => v = (bA r) ∧ H' = H0) noE := by
 refine id (TCall.body Tryz.func203 rfl rfl ?_)
 have hH : Holds H0 [] H0 := rfl
 refine uC ?_
 refine uA 1 rfl trivial ?_
 refine WpOps.nil ?_
 refine uC ?_
 refine uA 2 rfl trivial ?_
 obtain ⟨b_1, g_1, h⟩ := Sh.bind_some h
 refine uM 7 12 (bA b_1) rfl ?_ ?_
 ·
  refine uA 1 rfl trivial ?_
  refine uL 6 rfl (fun hb => ?_) (fun hb => ?_)
  ·
   replace g_1 := Sh.ite_pos hb g_1
   refine uA 2 rfl trivial ?_
   refine uB (v := (AV.rows 6 (List.map cGTok t1_1.body))) rfl rfl (uG rfl rfl rfl) ?_
   refine uA 1 rfl trivial ?_
   refine uN 10 (len_map _ _) ?_
   refine uA 2 rfl trivial ?_
   refine WpOps.nil ?_
   obtain rfl := Sh.some_inj g_1
   exact ⟨rfl, rfl⟩
  ·
   replace g_1 := Sh.ite_neg hb g_1
   refine uA 6 rfl trivial ?_
   refine WpOps.nil ?_
   obtain rfl := Sh.some_inj g_1
   exact ⟨rfl, rfl⟩
 intro env
 obtain ⟨b_2, g_2, h⟩ := Sh.bind_some h
 refine uM 9 21 (bA b_2) rfl ?_ ?_
 ·
  refine uA 1 rfl trivial ?_
  refine uL 13 rfl (fun hb => ?_) (fun hb => ?_)
  ·
   replace g_2 := Sh.ite_pos hb g_2
   refine uA 1 rfl trivial ?_
   refine uB (v := (AV.rows 6 (List.map cGTok t1_1.body))) rfl rfl (uG rfl rfl rfl) ?_
   obtain ⟨y_1, hy_1, g_2⟩ := Sh.bind_some g_2
   refine uA 1 rfl trivial ?_
   refine uB (v := (.rop (cGTok y_1))) rfl rfl (uR cGTok hy_1 rfl rfl rfl rfl (by kernel_rfl) (by decide)) ?_
   refine uA 1 rfl trivial ?_
   refine uB (v := (iA y_1.kind)) rfl rfl (uG rfl rfl rfl) ?_
   refine uA 2 rfl trivial ?_
   refine WpOps.nil ?_
   obtain rfl := Sh.some_inj g_2
   exact ⟨rfl, rfl⟩
  ·
   replace g_2 := Sh.ite_neg hb g_2
   refine uA 8 rfl trivial ?_
   refine WpOps.nil ?_
   obtain rfl := Sh.some_inj g_2
   exact ⟨rfl, rfl⟩
 intro env
 obtain ⟨b_3, g_3, h⟩ := Sh.bind_some h
 refine uM 9 30 (bA b_3) rfl ?_ ?_
 ·
  refine uA 1 rfl trivial ?_
  refine uL 22 rfl (fun hb => ?_) (fun hb => ?_)
  ·
   replace g_3 := Sh.ite_pos hb g_3
   refine uA 1 rfl trivial ?_
   refine uB (v := (AV.rows 6 (List.map cGTok t1_1.body))) rfl rfl (uG rfl rfl rfl) ?_
   obtain ⟨y_2, hy_2, g_3⟩ := Sh.bind_some g_3
   refine uA 1 rfl trivial ?_
   refine uB (v := (.rop (cGTok y_2))) rfl rfl (uR cGTok hy_2 rfl rfl rfl rfl (by kernel_rfl) (by decide)) ?_
   refine uA 1 rfl trivial ?_
   refine uB (v := (sA y_2.text)) rfl rfl (uG rfl rfl rfl) ?_
   refine uA 2 rfl trivial ?_
   refine WpOps.nil ?_
   obtain rfl := Sh.some_inj g_3
   exact ⟨rfl, rfl⟩
  ·
   replace g_3 := Sh.ite_neg hb g_3
   refine uA 8 rfl trivial ?_
   refine WpOps.nil ?_
   obtain rfl := Sh.some_inj g_3
   exact ⟨rfl, rfl⟩
 intro env
 refine uA 1 rfl trivial ?_
 refine WpOps.nil ?_
 obtain rfl := Sh.some_inj h
 refine WpC.ret ?_
 exact uH rfl rfl ⟨rfl, hH⟩
theorem w_expand_pastes {H0 : Heap} {m_1 : GMacro} {i_1 : Int} {r : Bool} (h : expand_pastes m_1 i_1 = some r) : TCall Tryz.prog 195 [(AV.agg (cGMacro m_1)), (iA i_1)] H0 (fun v H' => v = (bA r) ∧ H' = H0) noE := by
 refine id (TCall.body Tryz.func195 rfl rfl ?_)
 have hH : Holds H0 [] H0 := rfl
 refine uC ?_
 refine uE rfl rfl (vF (v := (AV.agg (cGMacro m_1))) rfl rfl hH fun g_1 H' hH => ?_)
 refine uA 1 rfl trivial ?_
 refine WpOps.nil ?_
 refine WpC.ice (t := 2) (i := 0) hH rfl rfl (fun H' hH => ?_)
 refine uC ?_
 refine uA 2 rfl trivial ?_
 refine WpOps.nil ?_
 refine uC ?_
 obtain ⟨c_1, h⟩ := Sh.chk_some h
 obtain ⟨r_1, hr_1, h⟩ := Sh.bind_some h
 refine uA 3 rfl c_1 ?_
 refine uB (v := (bA r_1)) rfl rfl (vN rfl rfl rfl rfl (w_expand_pastes_c1 hr_1)) ?_
 obtain ⟨b_1, g_2, h⟩ := Sh.bind_some h
 refine uM 6 16 (bA b_1) rfl ?_ ?_
 ·
  refine uA 1 rfl trivial ?_
  refine uL 11 rfl (fun hb => ?_) (fun hb => ?_)
  ·
   replace g_2 := Sh.ite_pos hb g_2
   refine uA 5 rfl trivial ?_
   refine WpOps.nil ?_
   obtain rfl := Sh.some_inj g_2
   exact ⟨rfl, rfl⟩
  ·
   replace g_2 := Sh.ite_neg hb g_2
   obtain ⟨c_2, g_2⟩ := Sh.chk_some g_2
   obtain ⟨r_2, hr_2, g_2⟩ := Sh.bind_some g_2
   refine uA 3 rfl c_2 ?_
   refine uB (v := (bA r_2)) rfl rfl (vN rfl rfl rfl rfl (w_expand_pastes_c1 hr_2)) ?_
   refine uA 1 rfl trivial ?_
   refine WpOps.nil ?_
   obtain rfl := Sh.some_inj g_2
   exact ⟨rfl, rfl⟩
 intro env
 refine uA 1 rfl trivial ?_
 refine WpOps.nil ?_
 obtain rfl := Sh.some_inj h
 refine WpC.ret ?_
 exact uH rfl rfl ⟨rfl, hH⟩
theorem w_expand_quotes {H0 : Heap} {m_1 : GMacro} {i_1 : Int} {r : Bool} (h : expand_quotes m_1 i_1 = some r) : TCall Tryz.prog 196 [(AV.agg (cGMacro m_1)), (iA i_1)] H0 (fun v H' => v = (bA r) ∧ H' = H0) noE := by
 refine id (TCall.body Tryz.func196 rfl rfl ?_)
 have hH : Holds H0 [] H0 := rfl
 refine uC ?_
 refine uE rfl rfl (vF (v := (AV.agg (cGMacro m_1))) rfl rfl hH fun g_1 H' hH => ?_)
 refine uA 1 rfl trivial ?_
 refine WpOps.nil ?_
 refine uC ?_
 refine uA 1 rfl trivial ?_
 refine uB (v := (bA m_1.func)) rfl rfl (Exact.load rfl rfl (hH.cell (i := 0) rfl) rfl rfl) ?_
 obtain ⟨b_1, g_2, h⟩ := Sh.bind_some h
 refine uM 4 10 (bA b_1) rfl ?_ ?_
 ·
  refine uA 1 rfl trivial ?_
  refine uL 7 rfl (fun hb => ?_) (fun hb => ?_)
  ·
   replace g_2 := Sh.ite_pos hb g_2
   refine uA 3 rfl trivial ?_
   refine WpOps.nil ?_
   obtain rfl := Sh.some_inj g_2
   exact ⟨rfl, rfl⟩
  ·
   replace g_2 := Sh.ite_neg hb g_2
   refine uA 3 rfl trivial ?_
   refine WpOps.nil ?_
   obtain rfl := Sh.some_inj g_2
   exact ⟨rfl, rfl⟩
 intro env
 obtain ⟨b_2, g_3, h⟩ := Sh.bind_some h
 refine uM 9 19 (bA b_2) rfl ?_ ?_
 ·
  refine uA 1 rfl trivial ?_
  refine uL 11 rfl (fun hb => ?_) (fun hb => ?_)
  ·
   replace g_3 := Sh.ite_pos hb g_3
   refine uA 1 rfl trivial ?_
   refine uB (v := (AV.rows 6 (List.map cGTok m_1.body))) rfl rfl (Exact.load rfl rfl (hH.cell (i := 0) rfl) rfl rfl) ?_
   obtain ⟨y_1, hy_1, g_3⟩ := Sh.bind_some g_3
   refine uA 1 rfl trivial ?_
   refine uB (v := (.rop (cGTok y_1))) rfl rfl (uR cGTok hy_1 rfl rfl rfl rfl (by kernel_rfl) (by decide)) ?_
   refine uA 1 rfl trivial ?_
   refine uB (v := (iA y_1.kind)) rfl rfl (uG rfl rfl rfl) ?_
   refine uA 2 rfl trivial ?_
   refine WpOps.nil ?_
   obtain rfl := Sh.some_inj g_3
   exact ⟨rfl, rfl⟩
  ·
   replace g_3 := Sh.ite_neg hb g_3
   refine uA 8 rfl trivial ?_
   refine WpOps.nil ?_
   obtain rfl := Sh.some_inj g_3
   exact ⟨rfl, rfl⟩
 intro env
 obtain ⟨b_3, g_4, h⟩ := Sh.bind_some h
 refine uM 9 28 (bA b_3) rfl ?_ ?_
 ·
  refine uA 1 rfl trivial ?_
  refine uL 20 rfl (fun hb => ?_) (fun hb => ?_)
  ·
   replace g_4 := Sh.ite_pos hb g_4
   refine uA 1 rfl trivial ?_
   refine uB (v := (AV.rows 6 (List.map cGTok m_1.body))) rfl rfl (Exact.load rfl rfl (hH.cell (i := 0) rfl) rfl rfl) ?_
   obtain ⟨y_2, hy_2, g_4⟩ := Sh.bind_some g_4
   refine uA 1 rfl trivial ?_
   refine uB (v := (.rop (cGTok y_2))) rfl rfl (uR cGTok hy_2 rfl rfl rfl rfl (by kernel_rfl) (by decide)) ?_
   refine uA 1 rfl trivial ?_
   refine uB (v := (sA y_2.text)) rfl rfl (uG rfl rfl rfl) ?_
   refine uA 2 rfl trivial ?_
   refine WpOps.nil ?_
   obtain rfl := Sh.some_inj g_4
   exact ⟨rfl, rfl⟩
  ·
   replace g_4 := Sh.ite_neg hb g_4
   refine uA 8 rfl trivial ?_
   refine WpOps.nil ?_
   obtain rfl := Sh.some_inj g_4
   exact ⟨rfl, rfl⟩
 intro env
 obtain ⟨b_4, g_5, h⟩ := Sh.bind_some h
 refine uM 7 35 (bA b_4) rfl ?_ ?_
 ·
  refine uA 1 rfl trivial ?_
  refine uL 29 rfl (fun hb => ?_) (fun hb => ?_)
  ·
   replace g_5 := Sh.ite_pos hb g_5
   refine uB (v := (AV.agg (cGMacro m_1))) rfl rfl (Exact.load rfl rfl (hH.cell (i := 0) rfl) rfl rfl) ?_
   obtain ⟨c_1, g_5⟩ := Sh.chk_some g_5
   obtain ⟨r_1, hr_1, g_5⟩ := Sh.bind_some g_5
   refine uA 2 rfl c_1 ?_
   refine uB (v := (iA r_1)) rfl rfl (Exact.call rfl rfl rfl (w_expand_place hr_1)) ?_
   refine uA 2 rfl trivial ?_
   refine WpOps.nil ?_
   obtain rfl := Sh.some_inj g_5
   exact ⟨rfl, rfl⟩
  ·
   replace g_5 := Sh.ite_neg hb g_5
   refine uA 6 rfl trivial ?_
   refine WpOps.nil ?_
   obtain rfl := Sh.some_inj g_5
   exact ⟨rfl, rfl⟩
 intro env
 refine uA 1 rfl trivial ?_
 refine WpOps.nil ?_
 refine uP (i := 0) hH rfl (fun H' hH => ?_)
 obtain rfl := Sh.some_inj h
 refine WpC.ret ?_
 exact uH rfl rfl ⟨rfl, hH⟩
theorem w_expand_work_expanded {H0 H : Heap} (hG : Glob H0) {g_1 : Nat} {gm_1 : Nat} {w_1 : GExpand_work} {m_1 : GMacro} {args_1 : List (List GExpand_token)} {r : (List (List GExpand_token) × Int) × GExpand_work} (h : expand_work_expanded w_1 m_1 args_1 = some r) (hH : Holds H0 [.cell g_1 224 [.lit (.map (some gm_1)), (iA w_1.steps)], .many (mapP gm_1 w_1.ms)] H) : TCall Tryz.prog 186 [(.lit (.pointer (some ⟨g_1, 0, none⟩))), (AV.agg (cGMacro m_1)), (AV.rows 1 (List.map (cL 9 cGExpand_token) args_1))] H (fun v H' => ∃ b : Unit, v = (.tup [(AV.rows 1 (List.map (cL 9 cGExpand_token) r.1.1)), (iA r.1.2)]) ∧ Holds H0 [.cell g_1 224 [.lit (.map (some gm_1)), (iA r.2.steps)], .many (mapP gm_1 r.2.ms)] H') noE := by
 refine id (TCall.body Tryz.func186 rfl rfl ?_)
 refine uC ?_
 refine uE rfl rfl (vF (v := (AV.agg (cGMacro m_1))) rfl rfl hH fun g_2 H' hH => ?_)
 refine uA 2 rfl trivial ?_
 refine WpOps.nil ?_
 refine uC ?_
 refine uA 2 rfl trivial ?_
 refine uN 15 (len_map _ _) ?_
 obtain ⟨c_1, h⟩ := Sh.chk_some h
 refine uE rfl rfl (WpO.makeU (cL 9 cGExpand_token) (z := ([] : List GExpand_token)) (n := (args_1.length : Int)) c_1 (.cons (Sub.nil 9) .nil) rfl rfl rfl hH rfl rfl rfl rfl (by decide) fun g_3 cp_1 H' hH => ?_)
 refine uA 1 rfl trivial ?_
 refine WpOps.nil ?_
 refine WpC.seq ?_
 refine uC ?_
 refine uA 2 rfl trivial ?_
 refine uN 18 (len_map _ _) ?_
 refine uA 1 rfl trivial ?_
 refine WpOps.nil ?_
 refine vA (fun x : (List (List GExpand_token) × GExpand_work) × ((Option (Nat × Nat))) => [(8, (.own (List.map (cL 9 cGExpand_token) x.1.1).length x.2))]) (fun x H' => expand_work_expanded_j1 x.1 = some r ∧ Holds H0 [.own 228 1 x.2 (List.map (cL 9 cGExpand_token) x.1.1), .cell g_1 224 [.lit (.map (some gm_1)), (iA x.1.2.steps)], .many (mapP gm_1 x.1.2.ms)] H') ?_ ?_
 ·
  obtain ⟨o_1, ho_1, hk_1⟩ := Sh.bind_some h
  refine uX (expand_work_expanded_b2 m_1 args_1) (fun (s : Int × List (List GExpand_token) × GExpand_work) (a : (Option (Nat × Nat))) => [(0, (.lit (.pointer (some ⟨g_1, 0, none⟩)))), (2, (AV.rows 1 (List.map (cL 9 cGExpand_token) args_1))), (4, (.lit (.pointer (some ⟨g_2, 0, none⟩)))), (8, (.own (List.map (cL 9 cGExpand_token) s.2.1).length a)), (18, (iA (args_1.length : Int))), (19, (iA s.1))]) (fun (s : Int × List (List GExpand_token) × GExpand_work) (a : (Option (Nat × Nat))) H' => Holds H0 [.own 228 1 a (List.map (cL 9 cGExpand_token) s.2.1), .cell g_2 69 (cGMacro m_1), .cell g_1 224 [.lit (.map (some gm_1)), (iA s.2.2.steps)], .many (mapP gm_1 s.2.2.ms)] H') o_1 ((0 : Int), (List.replicate ((args_1.length : Int)).toNat ([] : List GExpand_token)), w_1) (some (g_3, cp_1)) ho_1 ⟨rfl, rfl, rfl, rfl, rfl, rfl, trivial⟩ hH ?_
  rintro ⟨t19_1, out_1, w_2⟩ p_1 st_1 env H' h hd_1 hH
  refine uC ?_
  refine uA 1 rfl trivial ?_
  refine WpOps.nil ?_
  refine WpC.seq ?_
  refine uF rfl (fun hb => ?_) (fun hb => ?_)
  ·
   replace h := Sh.ite_pos hb h
   refine uI ?_
   refine ⟨_, uD _, ?_⟩
   refine WpC.seq ?_
   refine WpC.block ?_
   refine uC ?_
   refine uA 2 rfl trivial ?_
   refine WpOps.nil ?_
   refine uC ?_
   refine uA 1 rfl trivial ?_
   refine WpOps.nil ?_
   refine WpC.seq ?_
   refine uC ?_
   refine uA 1 rfl trivial ?_
   refine uB (v := (AV.rows 6 (List.map cGTok m_1.body))) rfl rfl (Exact.load rfl rfl (hH.cell (i := 1) rfl) rfl rfl) ?_
   refine uA 1 rfl trivial ?_
   refine uN 24 (len_map _ _) ?_
   refine uA 1 rfl trivial ?_
   refine WpOps.nil ?_
   refine vA (fun x : (Bool) × (Unit) => [(0, (.lit (.pointer (some ⟨g_1, 0, none⟩)))), (2, (AV.rows 1 (List.map (cL 9 cGExpand_token) args_1))), (4, (.lit (.pointer (some ⟨g_2, 0, none⟩)))), (8, (.own (List.map (cL 9 cGExpand_token) out_1).length p_1)), (9, (iA t19_1)), (10, (bA x.1)), (18, (iA (args_1.length : Int))), (19, (iA t19_1))]) (fun x H' => (expand_work_expanded_j3 t19_1 out_1 w_2) x.1 = some st_1 ∧ Holds H0 [.own 228 1 p_1 (List.map (cL 9 cGExpand_token) out_1), .cell g_2 69 (cGMacro m_1), .cell g_1 224 [.lit (.map (some gm_1)), (iA w_2.steps)], .many (mapP gm_1 w_2.ms)] H') ?_ ?_
   ·
    obtain ⟨o_2, ho_2, hk_2⟩ := Sh.bind_some h
    refine uX (expand_work_expanded_b4 m_1 t19_1) (fun (s : Bool × Int) (a : Unit) => [(0, (.lit (.pointer (some ⟨g_1, 0, none⟩)))), (2, (AV.rows 1 (List.map (cL 9 cGExpand_token) args_1))), (4, (.lit (.pointer (some ⟨g_2, 0, none⟩)))), (8, (.own (List.map (cL 9 cGExpand_token) out_1).length p_1)), (9, (iA t19_1)), (10, (bA s.1)), (18, (iA (args_1.length : Int))), (19, (iA t19_1)), (24, (iA (m_1.body.length : Int))), (25, (iA s.2))]) (fun (s : Bool × Int) (a : Unit) H' => Holds H0 [.own 228 1 p_1 (List.map (cL 9 cGExpand_token) out_1), .cell g_2 69 (cGMacro m_1), .cell g_1 224 [.lit (.map (some gm_1)), (iA w_2.steps)], .many (mapP gm_1 w_2.ms)] H') o_2 (false, (0 : Int)) () ho_2 ⟨rfl, rfl, rfl, rfl, rfl, rfl, rfl, rfl, rfl, rfl, trivial⟩ hH ?_
    rintro ⟨needed_1, t25_1⟩ _ st_2 env H' h hd_2 hH
    refine uC ?_
    refine uA 1 rfl trivial ?_
    refine WpOps.nil ?_
    refine WpC.seq ?_
    refine uF rfl (fun hb => ?_) (fun hb => ?_)
    ·
     replace h := Sh.ite_pos hb h
     refine uI ?_
     refine ⟨_, uD _, ?_⟩
     refine WpC.seq ?_
     refine WpC.block ?_
     refine uC ?_
     refine uA 2 rfl trivial ?_
     refine WpOps.nil ?_
     refine uJ ?_
     refine uA 1 rfl trivial ?_
     obtain ⟨b_1, g_4, h⟩ := Sh.bind_some h
     refine uM 20 48 (bA b_1) rfl ?_ ?_
     ·
      refine uA 1 rfl trivial ?_
      refine uL 29 rfl (fun hb => ?_) (fun hb => ?_)
      ·
       replace g_4 := Sh.ite_pos hb g_4
       refine uA 19 rfl trivial ?_
       refine WpOps.nil ?_
       obtain rfl := Sh.some_inj g_4
       exact ⟨rfl, rfl⟩
      ·
       replace g_4 := Sh.ite_neg hb g_4
       refine uB (v := (AV.agg (cGMacro m_1))) rfl rfl (Exact.load rfl rfl (hH.cell (i := 1) rfl) rfl rfl) ?_
       obtain ⟨r_1, hr_1, g_4⟩ := Sh.bind_some g_4
       refine uA 1 rfl trivial ?_
       refine uB (v := (iA r_1)) rfl rfl (Exact.call rfl rfl rfl (w_expand_place hr_1)) ?_
       refine uA 2 rfl trivial ?_
       obtain ⟨b_2, g_5, g_4⟩ := Sh.bind_some g_4
       refine uM 6 40 (bA b_2) rfl ?_ ?_
       ·
        refine uA 1 rfl trivial ?_
        refine uL 35 rfl (fun hb => ?_) (fun hb => ?_)
        ·
         replace g_5 := Sh.ite_pos hb g_5
         refine uB (v := (AV.agg (cGMacro m_1))) rfl rfl (Exact.load rfl rfl (hH.cell (i := 1) rfl) rfl rfl) ?_
         obtain ⟨r_2, hr_2, g_5⟩ := Sh.bind_some g_5
         refine uA 1 rfl trivial ?_
         refine uB (v := (bA r_2)) rfl rfl (Exact.call rfl rfl rfl (w_expand_pastes hr_2)) ?_
         refine uA 2 rfl trivial ?_
         refine WpOps.nil ?_
         obtain rfl := Sh.some_inj g_5
         exact ⟨rfl, rfl⟩
        ·
         replace g_5 := Sh.ite_neg hb g_5
         refine uA 5 rfl trivial ?_
         refine WpOps.nil ?_
         obtain rfl := Sh.some_inj g_5
         exact ⟨rfl, rfl⟩
       intro env
       obtain ⟨b_3, g_6, g_4⟩ := Sh.bind_some g_4
       refine uM 7 47 (bA b_3) rfl ?_ ?_
       ·
        refine uA 1 rfl trivial ?_
        refine uL 41 rfl (fun hb => ?_) (fun hb => ?_)
        ·
         replace g_6 := Sh.ite_pos hb g_6
         refine uB (v := (AV.agg (cGMacro m_1))) rfl rfl (Exact.load rfl rfl (hH.cell (i := 1) rfl) rfl rfl) ?_
         obtain ⟨c_2, g_6⟩ := Sh.chk_some g_6
         obtain ⟨r_3, hr_3, g_6⟩ := Sh.bind_some g_6
         refine uA 2 rfl c_2 ?_
         refine uB (v := (bA r_3)) rfl rfl (Exact.call rfl rfl rfl (w_expand_quotes hr_3)) ?_
         refine uA 2 rfl trivial ?_
         refine WpOps.nil ?_
         obtain rfl := Sh.some_inj g_6
         exact ⟨rfl, rfl⟩
        ·
         replace g_6 := Sh.ite_neg hb g_6
         refine uA 6 rfl trivial ?_
         refine WpOps.nil ?_
         obtain rfl := Sh.some_inj g_6
         exact ⟨rfl, rfl⟩
       intro env
       refine uA 1 rfl trivial ?_
       refine WpOps.nil ?_
       obtain rfl := Sh.some_inj g_4
       exact ⟨rfl, rfl⟩
     intro env
     refine uA 1 rfl trivial ?_
     refine WpOps.nil ?_
     refine ⟨_, uD _, ?_⟩
     refine uJ ?_
     obtain ⟨c_3, h⟩ := Sh.chk_some h
     refine uA 2 rfl c_3 ?_
     refine WpOps.nil ?_
     obtain rfl := Sh.some_inj h
     exact ⟨_, (uD _), (b_1, (t25_1 + (1 : Int))), (), rfl, ⟨rfl, rfl, rfl, rfl, rfl, rfl, rfl, rfl, rfl, rfl, trivial⟩, hH⟩
    ·
     replace h := Sh.ite_neg hb h
     obtain rfl := Sh.some_inj h
     have e := hd_2 _ rfl
     subst e
     refine WpC.exit ?_
     exact ⟨(needed_1, ()), ⟨rfl, rfl, rfl, rfl, rfl, rfl, rfl, rfl, trivial⟩, hk_2, hH⟩
   ·
    rintro ⟨needed_2, _⟩ env H' ⟨h, hH⟩
    try dsimp only at h
    refine ⟨_, uD _, ?_⟩
    refine WpC.seq ?_
    refine uC ?_
    refine uA 2 rfl trivial ?_
    refine WpOps.nil ?_
    refine uF rfl (fun hb => ?_) (fun hb => ?_)
    ·
     replace h := Sh.ite_pos hb h
     refine WpC.exitD ?_
     refine ⟨_, uD _, ?_⟩
     refine uJ ?_
     obtain ⟨c_4, h⟩ := Sh.chk_some h
     refine uA 2 rfl c_4 ?_
     refine WpOps.nil ?_
     obtain rfl := Sh.some_inj h
     exact ⟨_, (uD _), ((t19_1 + (1 : Int)), out_1, w_2), p_1, rfl, ⟨rfl, rfl, rfl, rfl, rfl, rfl, trivial⟩, hH⟩
    ·
     replace h := Sh.ite_neg hb h
     refine uI ?_
     refine ⟨_, uD _, ?_⟩
     cases h
  ·
   replace h := Sh.ite_neg hb h
   refine uP (i := 1) hH rfl (fun H' hH => ?_)
   obtain rfl := Sh.some_inj h
   have e := hd_1 _ rfl
   subst e
   refine WpC.exit ?_
   exact ⟨((out_1, w_2), p_1), ⟨rfl, trivial⟩, hk_1, hH⟩
 ·
  rintro ⟨⟨out_2, w_6⟩, p_2⟩ env H' ⟨h, hH⟩
  try dsimp only at h
  refine ⟨_, uD _, ?_⟩
  refine uC ?_
  refine uA 3 rfl trivial ?_
  refine WpOps.nil ?_
  refine vJ (t := 6) (i := 0) hH rfl rfl (fun H' hH => ?_)
  have hH : Holds H0 [.cell g_1 224 [.lit (.map (some gm_1)), (iA w_6.steps)], .many (mapP gm_1 w_6.ms)] _ := hH
  obtain rfl := Sh.some_inj h
  refine WpC.ret ?_
  exact uU rfl rfl rfl ⟨(), rfl, hH⟩
end Go.Proofs.YtgmpeddopfnioaaGreatDoor
