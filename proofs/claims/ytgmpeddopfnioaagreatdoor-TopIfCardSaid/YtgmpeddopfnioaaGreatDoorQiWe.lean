/-
  Part of the proof of If.
-/
import Derived.Test.YtgmpeddopfnioaaGreatDoorQiWd

set_option linter.unusedVariables false
set_option linter.unusedSimpArgs false
set_option maxRecDepth 20000
set_option maxHeartbeats 8000000
namespace Go.Proofs.YtgmpeddopfnioaaGreatDoor
open Go Go.Vc Go.Sh
attribute [local irreducible] WpC WpOps WpPi WpPj WpO Exact TCall VEnds Sh.loopS DEnds
theorem w_unit_file_directiveF {R : UnitR} (hR : UnitOk R) {H0 H : Heap} (hG : Glob H0) {g_1 : Nat} {gm_1 : Nat} {p_1 : Option (Nat × Nat)} {f_1 : GUnit_file} {run_1 : GUnit_run} {line_1 : Int} {r : (Option GFault) × GUnit_run} (h : unit_file_directiveF R f_1 run_1 line_1 = some r) (hH : Holds H0 [.cell g_1 67 [(AV.rows 2 (List.map cGFile run_1.files)), .lit (.map (some gm_1)), .own (List.map cGTok run_1.told).length p_1, (iA run_1.includes)], .own 50 6 p_1 (List.map cGTok run_1.told), .many (mapP gm_1 run_1.macros)] H) : TCall Tryz.prog 96 [(.rop (cGUnit_file g_1 f_1)), (iA line_1)] H (fun v H' => ∃ b : (Option (Nat × Nat)), v = ((errA r.1)) ∧ Holds H0 [.cell g_1 67 [(AV.rows 2 (List.map cGFile r.2.files)), .lit (.map (some gm_1)), .own (List.map cGTok r.2.told).length b, (iA r.2.includes)], .own 50 6 b (List.map cGTok r.2.told), .many (mapP gm_1 r.2.macros)] H') noE := by
 refine id (TCall.body Tryz.func96 rfl rfl ?_)
 refine uC ?_
 refine uB (v := (errA (none : Option GFault))) rfl rfl (uZ rfl rfl) ?_
 refine WpOps.nil ?_
 refine uC ?_
 refine uA 3 rfl trivial ?_
 refine uB (v := (AV.rows 4 (List.map cGLine f_1.lines))) rfl rfl (uG rfl rfl rfl) ?_
 obtain ⟨y_1, hy_1, h⟩ := Sh.bind_some h
 refine uA 1 rfl trivial ?_
 refine uB (v := (.rop (cGLine y_1))) rfl rfl (uR cGLine hy_1 rfl rfl rfl rfl (by kernel_rfl) (by decide)) ?_
 refine uB (v := (AV.agg (cGLine y_1))) rfl rfl (uG rfl rfl rfl) ?_
 refine uE rfl rfl (vK (z' := cGLine (GLine.mk (0 : Int) (0 : Int) (0 : Int) ([] : List GTok))) rfl rfl (.cons (.refl _) (.cons (.refl _) (.cons (.refl _) (.cons (Sub.nil _) .nil)))) hH fun g_2 H' hH => ?_)
 refine uE rfl rfl (uQ (cs' := (cGLine y_1)) (v := (AV.agg (cGLine y_1))) rfl rfl hH (i := 0) rfl rfl rfl rfl rfl rfl rfl fun H' hH => ?_)
 refine WpOps.nil ?_
 refine uC ?_
 refine uA 1 rfl trivial ?_
 refine WpOps.nil ?_
 refine vG (fun x : (Int × GUnit_run) × ((Option (Nat × Nat))) => [(0, (.rop (cGUnit_file g_1 f_1))), (1, (iA line_1)), (6, (iA x.1.1))]) (fun x H' => ((unit_file_directive_j1 R) f_1 line_1) x.1 = some r ∧ Holds H0 [.cell g_1 67 [(AV.rows 2 (List.map cGFile x.1.2.files)), .lit (.map (some gm_1)), .own (List.map cGTok x.1.2.told).length x.2, (iA x.1.2.includes)], .own 50 6 x.2 (List.map cGTok x.1.2.told), .many (mapP gm_1 x.1.2.macros)] H') ?_ ?_
 ·
  refine uC ?_
  refine uA 1 rfl trivial ?_
  refine uB (v := (iA y_1.kind)) rfl rfl (Exact.load rfl rfl (hH.cell (i := 0) rfl) rfl rfl) ?_
  refine WpOps.nil ?_
  refine WpC.block ?_
  refine uC ?_
  refine uA 2 rfl trivial ?_
  refine WpOps.nil ?_
  refine uF rfl (fun hb => ?_) (fun hb => ?_)
  ·
   replace h := Sh.ite_pos hb h
   refine uJ ?_
   refine uA 2 rfl trivial ?_
   refine uB (v := (AV.rows 6 (List.map cGTok y_1.toks))) rfl rfl (Exact.load rfl rfl (hH.cell (i := 0) rfl) rfl rfl) ?_
   obtain ⟨r_1, hr_1, h⟩ := Sh.bind_some h
   have hH := hH.front (i := 3) rfl
   have hH := hH.front (i := 3) rfl
   have hH := hH.front (i := 3) rfl
   refine uE rfl rfl (vI 3 (V := fun b : (Option (Nat × Nat)) => ((iA r_1.1))) (A := fun b : (Option (Nat × Nat)) => [.cell g_1 67 [(AV.rows 2 (List.map cGFile r_1.2.files)), .lit (.map (some gm_1)), .own (List.map cGTok r_1.2.told).length b, (iA r_1.2.includes)], .own 50 6 b (List.map cGTok r_1.2.told), .many (mapP gm_1 r_1.2.macros)]) rfl rfl rfl hH (fun H1 hl hh => w_unit_file_define hr_1 hh) fun p_2 H' hH => ?_)
   have hH : Holds H0 [.cell g_1 67 [(AV.rows 2 (List.map cGFile r_1.2.files)), .lit (.map (some gm_1)), .own (List.map cGTok r_1.2.told).length p_2, (iA r_1.2.includes)], .own 50 6 p_2 (List.map cGTok r_1.2.told), .many (mapP gm_1 r_1.2.macros), .cell g_2 57 (cGLine y_1)] _ := hH
   have hH := hH.back 3
   have hH := hH.back 3
   have hH := hH.back 3
   have hH : Holds H0 [.cell g_2 57 (cGLine y_1), .cell g_1 67 [(AV.rows 2 (List.map cGFile r_1.2.files)), .lit (.map (some gm_1)), .own (List.map cGTok r_1.2.told).length p_2, (iA r_1.2.includes)], .own 50 6 p_2 (List.map cGTok r_1.2.told), .many (mapP gm_1 r_1.2.macros)] _ := hH
   refine uA 1 rfl trivial ?_
   refine WpOps.nil ?_
   obtain ⟨_, hle_1, hH⟩ := hH.lose_ (i := 0) rfl
   exact ⟨_, hle_1, ((r_1.1, r_1.2), p_2), ⟨rfl, rfl, rfl, trivial⟩, h, hH⟩
  ·
   replace h := Sh.ite_neg hb h
   refine uC ?_
   refine uA 2 rfl trivial ?_
   refine WpOps.nil ?_
   refine uF rfl (fun hb => ?_) (fun hb => ?_)
   ·
    replace h := Sh.ite_pos hb h
    refine uC ?_
    refine uA 1 rfl trivial ?_
    refine uB (v := (AV.rows 6 (List.map cGTok y_1.toks))) rfl rfl (Exact.load rfl rfl (hH.cell (i := 0) rfl) rfl rfl) ?_
    obtain ⟨r_2, hr_2, h⟩ := Sh.bind_some h
    refine uB (v := (.tup [(sA r_2.1), (bA r_2.2)])) rfl rfl (Exact.call rfl rfl rfl (w_unit_alone hr_2)) ?_
    refine uA 5 rfl trivial ?_
    refine WpOps.nil ?_
    refine uP (i := 0) hH rfl (fun H' hH => ?_)
    refine vG (fun x : (Int) × (Unit) => [(0, (.rop (cGUnit_file g_1 f_1))), (1, (iA line_1)), (6, (iA x.1)), (7, (sA r_2.1))]) (fun x H' => (unit_file_directive_j2 R) x.1 = some r ∧ Holds H0 [.cell g_1 67 [(AV.rows 2 (List.map cGFile run_1.files)), .lit (.map (some gm_1)), .own (List.map cGTok run_1.told).length p_1, (iA run_1.includes)], .own 50 6 p_1 (List.map cGTok run_1.told), .many (mapP gm_1 run_1.macros)] H') ?_ ?_
    ·
     refine uC ?_
     refine uA 2 rfl trivial ?_
     obtain ⟨b_1, g_3, h⟩ := Sh.bind_some h
     refine uM 5 38 (bA b_1) rfl ?_ ?_
     ·
      refine uA 1 rfl trivial ?_
      refine uL 34 rfl (fun hb => ?_) (fun hb => ?_)
      ·
       replace g_3 := Sh.ite_pos hb g_3
       refine uA 4 rfl trivial ?_
       refine WpOps.nil ?_
       obtain rfl := Sh.some_inj g_3
       exact ⟨rfl, rfl⟩
      ·
       replace g_3 := Sh.ite_neg hb g_3
       obtain ⟨r_3, hr_3, g_3⟩ := Sh.bind_some g_3
       refine uA 1 rfl trivial ?_
       refine uB (v := (bA r_3)) rfl rfl (Exact.call rfl rfl rfl (w_unit_name (hG.up hH) hr_3)) ?_
       refine uA 2 rfl trivial ?_
       refine WpOps.nil ?_
       obtain rfl := Sh.some_inj g_3
       exact ⟨rfl, rfl⟩
     intro env
     refine WpOps.nil ?_
     refine uF rfl (fun hb => ?_) (fun hb => ?_)
     ·
      replace h := Sh.ite_pos hb h
      refine uJ ?_
      refine uA 1 rfl trivial ?_
      refine WpOps.nil ?_
      exact ⟨_, (uD _), ((60 : Int), ()), ⟨rfl, rfl, rfl, rfl, trivial⟩, h, hH⟩
     ·
      replace h := Sh.ite_neg hb h
      refine uI ?_
      exact ⟨_, (uD _), ((0 : Int), ()), ⟨rfl, rfl, rfl, rfl, trivial⟩, h, hH⟩
    ·
     rintro ⟨e_1, _⟩ env H' ⟨h, hH⟩
     try dsimp only at h
     cases h
   ·
    replace h := Sh.ite_neg hb h
    refine uC ?_
    refine uA 2 rfl trivial ?_
    refine WpOps.nil ?_
    refine uF rfl (fun hb => ?_) (fun hb => ?_)
    ·
     replace h := Sh.ite_pos hb h
     refine uC ?_
     obtain ⟨r_4, hr_4, h⟩ := Sh.bind_some h
     refine uA 2 rfl trivial ?_
     have hH := hH.front (i := 3) rfl
     have hH := hH.front (i := 3) rfl
     have hH := hH.front (i := 3) rfl
     refine uE rfl rfl (vI 3 (V := fun b : (Option (Nat × Nat)) => ((errA r_4.1))) (A := fun b : (Option (Nat × Nat)) => [.cell g_1 67 [(AV.rows 2 (List.map cGFile r_4.2.files)), .lit (.map (some gm_1)), .own (List.map cGTok r_4.2.told).length b, (iA r_4.2.includes)], .own 50 6 b (List.map cGTok r_4.2.told), .many (mapP gm_1 r_4.2.macros)]) rfl rfl rfl hH (fun H1 hl hh => hR.w_unit_file_include (hG.le hl) hr_4 hh) fun p_3 H' hH => ?_)
     have hH : Holds H0 [.cell g_1 67 [(AV.rows 2 (List.map cGFile r_4.2.files)), .lit (.map (some gm_1)), .own (List.map cGTok r_4.2.told).length p_3, (iA r_4.2.includes)], .own 50 6 p_3 (List.map cGTok r_4.2.told), .many (mapP gm_1 r_4.2.macros), .cell g_2 57 (cGLine y_1)] _ := hH
     have hH := hH.back 3
     have hH := hH.back 3
     have hH := hH.back 3
     have hH : Holds H0 [.cell g_2 57 (cGLine y_1), .cell g_1 67 [(AV.rows 2 (List.map cGFile r_4.2.files)), .lit (.map (some gm_1)), .own (List.map cGTok r_4.2.told).length p_3, (iA r_4.2.includes)], .own 50 6 p_3 (List.map cGTok r_4.2.told), .many (mapP gm_1 r_4.2.macros)] _ := hH
     refine uB (v := (errA r_4.1)) rfl rfl (uZ rfl rfl) ?_
     refine WpOps.nil ?_
     refine uP (i := 0) hH rfl (fun H' hH => ?_)
     have hH : Holds H0 [.cell g_1 67 [(AV.rows 2 (List.map cGFile r_4.2.files)), .lit (.map (some gm_1)), .own (List.map cGTok r_4.2.told).length p_3, (iA r_4.2.includes)], .own 50 6 p_3 (List.map cGTok r_4.2.told), .many (mapP gm_1 r_4.2.macros)] _ := hH
     obtain rfl := Sh.some_inj h
     refine WpC.ret ?_
     exact uH rfl (forceA_rfl rfl) ⟨p_3, rfl, hH⟩
    ·
     replace h := Sh.ite_neg hb h
     refine uC ?_
     refine uA 2 rfl trivial ?_
     refine WpOps.nil ?_
     refine uF rfl (fun hb => ?_) (fun hb => ?_)
     ·
      replace h := Sh.ite_pos hb h
      refine uJ ?_
      refine uA 1 rfl trivial ?_
      refine WpOps.nil ?_
      obtain ⟨_, hle_2, hH⟩ := hH.lose_ (i := 0) rfl
      exact ⟨_, hle_2, (((104 : Int), run_1), p_1), ⟨rfl, rfl, rfl, trivial⟩, h, hH⟩
     ·
      replace h := Sh.ite_neg hb h
      refine uC ?_
      refine uA 2 rfl trivial ?_
      refine WpOps.nil ?_
      refine uF rfl (fun hb => ?_) (fun hb => ?_)
      ·
       replace h := Sh.ite_pos hb h
       refine uJ ?_
       refine uA 1 rfl trivial ?_
       refine WpOps.nil ?_
       obtain ⟨_, hle_3, hH⟩ := hH.lose_ (i := 0) rfl
       exact ⟨_, hle_3, (((105 : Int), run_1), p_1), ⟨rfl, rfl, rfl, trivial⟩, h, hH⟩
      ·
       replace h := Sh.ite_neg hb h
       refine uI ?_
       obtain ⟨_, hle_4, hH⟩ := hH.lose_ (i := 0) rfl
       exact ⟨_, hle_4, (((0 : Int), run_1), p_1), ⟨rfl, rfl, rfl, trivial⟩, h, hH⟩
 ·
  rintro ⟨⟨e_2, l_1⟩, p_4⟩ env H' ⟨h, hH⟩
  try dsimp only at h
  refine uC ?_
  obtain ⟨r_5, hr_5, h⟩ := Sh.bind_some h
  refine uA 3 rfl trivial ?_
  refine uB (v := (errA r_5)) rfl rfl (Exact.call rfl rfl rfl (w_unit_file_wrong hr_5)) ?_
  refine uB (v := (errA r_5)) rfl rfl (uZ rfl rfl) ?_
  refine WpOps.nil ?_
  have hH : Holds H0 [.cell g_1 67 [(AV.rows 2 (List.map cGFile l_1.files)), .lit (.map (some gm_1)), .own (List.map cGTok l_1.told).length p_4, (iA l_1.includes)], .own 50 6 p_4 (List.map cGTok l_1.told), .many (mapP gm_1 l_1.macros)] _ := hH
  obtain rfl := Sh.some_inj h
  refine WpC.ret ?_
  exact uH rfl (forceA_rfl rfl) ⟨p_4, rfl, hH⟩
theorem w_unit_file_includeF {R : UnitR} (hR : UnitOk R) {H0 H : Heap} (hG : Glob H0) {g_1 : Nat} {gm_1 : Nat} {p_1 : Option (Nat × Nat)} {f_1 : GUnit_file} {run_1 : GUnit_run} {line_1 : Int} {r : (Option GFault) × GUnit_run} (h : unit_file_includeF R f_1 run_1 line_1 = some r) (hH : Holds H0 [.cell g_1 67 [(AV.rows 2 (List.map cGFile run_1.files)), .lit (.map (some gm_1)), .own (List.map cGTok run_1.told).length p_1, (iA run_1.includes)], .own 50 6 p_1 (List.map cGTok run_1.told), .many (mapP gm_1 run_1.macros)] H) : TCall Tryz.prog 115 [(.rop (cGUnit_file g_1 f_1)), (iA line_1)] H (fun v H' => ∃ b : (Option (Nat × Nat)), v = ((errA r.1)) ∧ Holds H0 [.cell g_1 67 [(AV.rows 2 (List.map cGFile r.2.files)), .lit (.map (some gm_1)), .own (List.map cGTok r.2.told).length b, (iA r.2.includes)], .own 50 6 b (List.map cGTok r.2.told), .many (mapP gm_1 r.2.macros)] H') noE := by
  unfold unit_file_includeF at h; cases h
theorem unitN_ok : ∀ n, UnitOk (unitN n)
  | 0 => by constructor <;> (intros; rename (none = some _) => h; cases h)
  | n + 1 => by
    constructor
    · intros; first | exact w_unit_run_fileF (unitN_ok n) (by assumption) (by assumption) (by assumption) | exact w_unit_run_fileF (unitN_ok n) (by assumption) (by assumption) | exact w_unit_run_fileF (unitN_ok n) (by assumption)
    · intros; first | exact w_unit_file_itemsF (unitN_ok n) (by assumption) (by assumption) (by assumption) | exact w_unit_file_itemsF (unitN_ok n) (by assumption) (by assumption) | exact w_unit_file_itemsF (unitN_ok n) (by assumption)
    · intros; first | exact w_unit_file_branchesF (unitN_ok n) (by assumption) (by assumption) (by assumption) | exact w_unit_file_branchesF (unitN_ok n) (by assumption) (by assumption) | exact w_unit_file_branchesF (unitN_ok n) (by assumption)
    · intros; first | exact w_unit_file_directiveF (unitN_ok n) (by assumption) (by assumption) (by assumption) | exact w_unit_file_directiveF (unitN_ok n) (by assumption) (by assumption) | exact w_unit_file_directiveF (unitN_ok n) (by assumption)
    · intros; first | exact w_unit_file_includeF (unitN_ok n) (by assumption) (by assumption) (by assumption) | exact w_unit_file_includeF (unitN_ok n) (by assumption) (by assumption) | exact w_unit_file_includeF (unitN_ok n) (by assumption)
theorem w_unit_run_file {H0 H : Heap} (hG : Glob H0) {g_1 : Nat} {gm_1 : Nat} {p_1 : Option (Nat × Nat)} {r_1 : GUnit_run} {number_1 : Int} {deep_1 : Int} {r : (Option GFault) × GUnit_run} (h : unit_run_file r_1 number_1 deep_1 = some r) (hH : Holds H0 [.cell g_1 67 [(AV.rows 2 (List.map cGFile r_1.files)), .lit (.map (some gm_1)), .own (List.map cGTok r_1.told).length p_1, (iA r_1.includes)], .own 50 6 p_1 (List.map cGTok r_1.told), .many (mapP gm_1 r_1.macros)] H) : TCall Tryz.prog 27 [(.lit (.pointer (some ⟨g_1, 0, none⟩))), (iA number_1), (iA deep_1)] H (fun v H' => ∃ b : (Option (Nat × Nat)), v = ((errA r.1)) ∧ Holds H0 [.cell g_1 67 [(AV.rows 2 (List.map cGFile r.2.files)), .lit (.map (some gm_1)), .own (List.map cGTok r.2.told).length b, (iA r.2.includes)], .own 50 6 b (List.map cGTok r.2.told), .many (mapP gm_1 r.2.macros)] H') noE := (unitN_ok 40).w_unit_run_file hG h hH
theorem w_unit_file_items {H0 H : Heap} (hG : Glob H0) {g_1 : Nat} {gm_1 : Nat} {p_1 : Option (Nat × Nat)} {f_1 : GUnit_file} {run_1 : GUnit_run} {l_1 : List GItem} {r : (Option GFault) × GUnit_run} (h : unit_file_items f_1 run_1 l_1 = some r) (hH : Holds H0 [.cell g_1 67 [(AV.rows 2 (List.map cGFile run_1.files)), .lit (.map (some gm_1)), .own (List.map cGTok run_1.told).length p_1, (iA run_1.includes)], .own 50 6 p_1 (List.map cGTok run_1.told), .many (mapP gm_1 run_1.macros)] H) : TCall Tryz.prog 59 [(.rop (cGUnit_file g_1 f_1)), (AV.rows 3 (List.map cGItem l_1))] H (fun v H' => ∃ b : (Option (Nat × Nat)), v = ((errA r.1)) ∧ Holds H0 [.cell g_1 67 [(AV.rows 2 (List.map cGFile r.2.files)), .lit (.map (some gm_1)), .own (List.map cGTok r.2.told).length b, (iA r.2.includes)], .own 50 6 b (List.map cGTok r.2.told), .many (mapP gm_1 r.2.macros)] H') noE := (unitN_ok 40).w_unit_file_items hG h hH
theorem w_unit_file_branches {H0 H : Heap} (hG : Glob H0) {g_1 : Nat} {gm_1 : Nat} {p_1 : Option (Nat × Nat)} {f_1 : GUnit_file} {run_1 : GUnit_run} {l_1 : List GBranch} {r : (Option GFault) × GUnit_run} (h : unit_file_branches f_1 run_1 l_1 = some r) (hH : Holds H0 [.cell g_1 67 [(AV.rows 2 (List.map cGFile run_1.files)), .lit (.map (some gm_1)), .own (List.map cGTok run_1.told).length p_1, (iA run_1.includes)], .own 50 6 p_1 (List.map cGTok run_1.told), .many (mapP gm_1 run_1.macros)] H) : TCall Tryz.prog 95 [(.rop (cGUnit_file g_1 f_1)), (AV.rows 2 (List.map cGBranch l_1))] H (fun v H' => ∃ b : (Option (Nat × Nat)), v = ((errA r.1)) ∧ Holds H0 [.cell g_1 67 [(AV.rows 2 (List.map cGFile r.2.files)), .lit (.map (some gm_1)), .own (List.map cGTok r.2.told).length b, (iA r.2.includes)], .own 50 6 b (List.map cGTok r.2.told), .many (mapP gm_1 r.2.macros)] H') noE := (unitN_ok 40).w_unit_file_branches hG h hH
theorem w_unit_file_directive {H0 H : Heap} (hG : Glob H0) {g_1 : Nat} {gm_1 : Nat} {p_1 : Option (Nat × Nat)} {f_1 : GUnit_file} {run_1 : GUnit_run} {line_1 : Int} {r : (Option GFault) × GUnit_run} (h : unit_file_directive f_1 run_1 line_1 = some r) (hH : Holds H0 [.cell g_1 67 [(AV.rows 2 (List.map cGFile run_1.files)), .lit (.map (some gm_1)), .own (List.map cGTok run_1.told).length p_1, (iA run_1.includes)], .own 50 6 p_1 (List.map cGTok run_1.told), .many (mapP gm_1 run_1.macros)] H) : TCall Tryz.prog 96 [(.rop (cGUnit_file g_1 f_1)), (iA line_1)] H (fun v H' => ∃ b : (Option (Nat × Nat)), v = ((errA r.1)) ∧ Holds H0 [.cell g_1 67 [(AV.rows 2 (List.map cGFile r.2.files)), .lit (.map (some gm_1)), .own (List.map cGTok r.2.told).length b, (iA r.2.includes)], .own 50 6 b (List.map cGTok r.2.told), .many (mapP gm_1 r.2.macros)] H') noE := (unitN_ok 40).w_unit_file_directive hG h hH
theorem w_unit_file_include {H0 H : Heap} (hG : Glob H0) {g_1 : Nat} {gm_1 : Nat} {p_1 : Option (Nat × Nat)} {f_1 : GUnit_file} {run_1 : GUnit_run} {line_1 : Int} {r : (Option GFault) × GUnit_run} (h : unit_file_include f_1 run_1 line_1 = some r) (hH : Holds H0 [.cell g_1 67 [(AV.rows 2 (List.map cGFile run_1.files)), .lit (.map (some gm_1)), .own (List.map cGTok run_1.told).length p_1, (iA run_1.includes)], .own 50 6 p_1 (List.map cGTok run_1.told), .many (mapP gm_1 run_1.macros)] H) : TCall Tryz.prog 115 [(.rop (cGUnit_file g_1 f_1)), (iA line_1)] H (fun v H' => ∃ b : (Option (Nat × Nat)), v = ((errA r.1)) ∧ Holds H0 [.cell g_1 67 [(AV.rows 2 (List.map cGFile r.2.files)), .lit (.map (some gm_1)), .own (List.map cGTok r.2.told).length b, (iA r.2.includes)], .own 50 6 b (List.map cGTok r.2.told), .many (mapP gm_1 r.2.macros)] H') noE := (unitN_ok 40).w_unit_file_include hG h hH
theorem w_unit_Run {H0 : Heap} (hG : Glob H0) {files_1 : List GFile} {main_1 : List UInt8} {defs_1 : List (List UInt8)} {r : List GTok × GFault} (h : unit_Run files_1 main_1 defs_1 = some r) : TCall Tryz.prog 14 [(AV.rows 2 (List.map cGFile files_1)), (sA main_1), (AV.rows 1 (List.map cS defs_1))] H0 (fun v H' => v = (.tup [(AV.rows 6 (List.map cGTok r.1)), (AV.agg (cGFault r.2))]) ∧ H' = H0) noE := by
 refine TCall.up (TCall.body Tryz.func14 rfl rfl ?_)
 have hH : Holds H0 [] H0 := rfl
 refine uC ?_
 refine uA 1 rfl trivial ?_
 refine uE rfl rfl (vC (z := cGFault (GFault.mk (0 : Int) (0 : Int) (0 : Int))) rfl rfl hH fun g_1 H' hH => ?_)
 refine WpOps.nil ?_
 refine uC ?_
 obtain ⟨r_1, hr_1, h⟩ := Sh.bind_some h
 refine uA 1 rfl trivial ?_
 refine uB (v := (.tup [(AV.rows 5 (List.map cGMacro r_1.1)), (iA r_1.2)])) rfl rfl (Exact.call rfl rfl rfl (w_unit_First (hG.up hH) hr_1)) ?_
 refine uA 5 rfl trivial ?_
 refine WpOps.nil ?_
 refine uC ?_
 obtain ⟨r_2, hr_2, h⟩ := Sh.bind_some h
 refine uA 2 rfl trivial ?_
 refine uB (v := (iA r_2)) rfl rfl (Exact.call rfl rfl rfl (w_unit_Find hr_2)) ?_
 refine uA 1 rfl trivial ?_
 refine WpOps.nil ?_
 refine WpC.seq ?_
 refine WpC.block ?_
 refine uC ?_
 refine uA 3 rfl trivial ?_
 refine WpOps.nil ?_
 refine uF rfl (fun hb => ?_) (fun hb => ?_)
 ·
  replace h := Sh.ite_pos hb h
  refine uC ?_
  refine uA 3 rfl trivial ?_
  refine uE rfl rfl (uQ (cs' := (cGFault (GFault.mk (0 : Int) (0 : Int) r_1.2))) (v := (AV.agg (cGFault (GFault.mk (0 : Int) (0 : Int) r_1.2)))) rfl rfl hH (i := 0) rfl rfl rfl rfl rfl rfl rfl fun H' hH => ?_)
  refine WpOps.nil ?_
  refine WpC.sub (t := 6) (Sub.nil 6) ?_
  obtain rfl := Sh.some_inj h
  refine WpC.ret ?_
  have hr := hH
  obtain ⟨_, hle_1, hx_1⟩ := hH.lose_ (i := 0) rfl
  exact vZ rfl (.tmp rfl (.cell rfl (hH.cell (i := 0) rfl) rfl rfl .nil)) ⟨_, _, Up.drop hle_1 _, rfl, hx_1⟩
 ·
  replace h := Sh.ite_neg hb h
  refine uC ?_
  refine uA 3 rfl trivial ?_
  refine WpOps.nil ?_
  refine uF rfl (fun hb => ?_) (fun hb => ?_)
  ·
   replace h := Sh.ite_pos hb h
   refine uC ?_
   refine uA 2 rfl trivial ?_
   refine uE rfl rfl (uQ (cs' := (cGFault (GFault.mk (0 : Int) (0 : Int) (100 : Int)))) (v := (AV.agg (cGFault (GFault.mk (0 : Int) (0 : Int) (100 : Int))))) rfl rfl hH (i := 0) rfl rfl rfl rfl rfl rfl rfl fun H' hH => ?_)
   refine WpOps.nil ?_
   refine WpC.sub (t := 6) (Sub.nil 6) ?_
   obtain rfl := Sh.some_inj h
   refine WpC.ret ?_
   have hr := hH
   obtain ⟨_, hle_2, hx_2⟩ := hH.lose_ (i := 0) rfl
   exact vZ rfl (.tmp rfl (.cell rfl (hH.cell (i := 0) rfl) rfl rfl .nil)) ⟨_, _, Up.drop hle_2 _, rfl, hx_2⟩
  ·
   replace h := Sh.ite_neg hb h
   refine uI ?_
   refine ⟨_, uD _, ?_⟩
   refine uC ?_
   refine uA 1 rfl trivial ?_
   refine uE rfl rfl (WpO.mkM rfl hH fun g_2 H' hH => ?_)
   refine uA 1 rfl trivial ?_
   refine uE rfl rfl (vF (v := .agg [(AV.rows 2 (List.map cGFile files_1)), .lit (.map (some g_2)), .own 0 none, (iA (0 : Int))]) rfl rfl hH fun g_3 H' hH => ?_)
   have hH := hH.nil 50 6
   have hH : Holds H0 [.own 50 6 none (List.map cGTok ([] : List GTok)), .cell g_3 67 [(AV.rows 2 (List.map cGFile files_1)), .lit (.map (some g_2)), .own (List.map cGTok ([] : List GTok)).length none, (iA (0 : Int))], .many (mapP g_2 ([] : List (List UInt8 × GMacro))), .cell g_1 39 (cGFault (GFault.mk (0 : Int) (0 : Int) (0 : Int)))] _ := hH
   refine uA 1 rfl trivial ?_
   refine WpOps.nil ?_
   refine WpC.seq ?_
   refine uC ?_
   refine uA 2 rfl trivial ?_
   refine uN 37 (len_map _ _) ?_
   refine uA 1 rfl trivial ?_
   refine WpOps.nil ?_
   refine vA (fun x : (GUnit_run) × ((Option (Nat × Nat))) => [(7, (.lit (.pointer (some ⟨g_1, 0, none⟩)))), (10, (iA r_2)), (11, (.lit (.pointer (some ⟨g_3, 0, none⟩))))]) (fun x H' => (unit_Run_j1 r_2) x.1 = some r ∧ Holds H0 [.own 50 6 x.2 (List.map cGTok x.1.told), .cell g_3 67 [(AV.rows 2 (List.map cGFile x.1.files)), .lit (.map (some g_2)), .own (List.map cGTok x.1.told).length x.2, (iA x.1.includes)], .many (mapP g_2 x.1.macros), .cell g_1 39 (cGFault (GFault.mk (0 : Int) (0 : Int) (0 : Int)))] H') ?_ ?_
   ·
    obtain ⟨o_1, ho_1, hk_1⟩ := Sh.bind_some h
    refine uX (unit_Run_b2 r_1) (fun (s : Int × GUnit_run) (a : (Option (Nat × Nat))) => [(7, (.lit (.pointer (some ⟨g_1, 0, none⟩)))), (10, (iA r_2)), (11, (.lit (.pointer (some ⟨g_3, 0, none⟩)))), (36, (AV.rows 5 (List.map cGMacro r_1.1))), (37, (iA (r_1.1.length : Int))), (38, (iA s.1))]) (fun (s : Int × GUnit_run) (a : (Option (Nat × Nat))) H' => Holds H0 [.own 50 6 a (List.map cGTok s.2.told), .cell g_3 67 [(AV.rows 2 (List.map cGFile s.2.files)), .lit (.map (some g_2)), .own (List.map cGTok s.2.told).length a, (iA s.2.includes)], .many (mapP g_2 s.2.macros), .cell g_1 39 (cGFault (GFault.mk (0 : Int) (0 : Int) (0 : Int)))] H') o_1 ((0 : Int), (GUnit_run.mk files_1 ([] : List (List UInt8 × GMacro)) ([] : List GTok) (0 : Int))) none ho_1 ⟨rfl, rfl, rfl, rfl, rfl, rfl, trivial⟩ hH ?_
    rintro ⟨t38_1, r_3⟩ p_1 st_1 env H' h hd_1 hH
    refine uC ?_
    refine uA 1 rfl trivial ?_
    refine WpOps.nil ?_
    refine WpC.seq ?_
    refine uF rfl (fun hb => ?_) (fun hb => ?_)
    ·
     replace h := Sh.ite_pos hb h
     refine uI ?_
     refine ⟨_, uD _, ?_⟩
     refine WpC.seq ?_
     refine WpC.block ?_
     refine uC ?_
     obtain ⟨y_1, hy_1, h⟩ := Sh.bind_some h
     refine uB (v := (.rop (cGMacro y_1))) rfl rfl (uR cGMacro hy_1 rfl rfl rfl rfl (by kernel_rfl) (by decide)) ?_
     refine uB (v := (AV.agg (cGMacro y_1))) rfl rfl (uG rfl rfl rfl) ?_
     refine uE rfl rfl (vK (z' := cGMacro (GMacro.mk ([] : List UInt8) false ([] : List (List UInt8)) false ([] : List GTok))) rfl rfl (.cons (.refl _) (.cons (.refl _) (.cons (Sub.nil _) (.cons (.refl _) (.cons (Sub.nil _) .nil))))) hH fun g_4 H' hH => ?_)
     refine uE rfl rfl (uQ (cs' := (cGMacro y_1)) (v := (AV.agg (cGMacro y_1))) rfl rfl hH (i := 0) rfl rfl rfl rfl rfl rfl rfl fun H' hH => ?_)
     refine WpOps.nil ?_
     refine wB [.I, .I, .I, .S, .I, .S, .S, .E] [0, 1, 2, 3, 4, 5, 6, 7] (by kernel_rfl) (by kernel_rfl) ?_
     refine uK 3 rfl trivial ?_
     refine uT (v := (.lit (.map (some g_2)))) rfl rfl rfl rfl (Exact.load rfl rfl (hH.cell (i := 2) rfl) rfl rfl) ?_
     refine uK 1 rfl trivial ?_
     refine uT (v := (sA y_1.name)) rfl rfl rfl rfl (Exact.load rfl rfl (hH.cell (i := 0) rfl) rfl rfl) ?_
     refine uT (v := (AV.agg (cGMacro y_1))) rfl rfl rfl rfl (Exact.load rfl rfl (hH.cell (i := 0) rfl) rfl rfl) ?_
     refine vM rfl rfl rfl rfl (WpO.updM rfl (by kernel_rfl) rfl hH (i := 3) rfl rfl rfl fun H' hH => ?_)
     have hH : Holds H0 [.cell g_4 69 (cGMacro y_1), .own 50 6 p_1 (List.map cGTok r_3.told), .cell g_3 67 [(AV.rows 2 (List.map cGFile r_3.files)), .lit (.map (some g_2)), .own (List.map cGTok r_3.told).length p_1, (iA r_3.includes)], .many (mapP g_2 (putM y_1.name y_1 r_3.macros)), .cell g_1 39 (cGFault (GFault.mk (0 : Int) (0 : Int) (0 : Int)))] _ := hH
     refine WpPi.nil ?_
     refine ⟨_, uD _, ?_⟩
     refine uJ ?_
     obtain ⟨c_1, h⟩ := Sh.chk_some h
     refine uA 2 rfl c_1 ?_
     refine WpOps.nil ?_
     obtain ⟨_, hle_3, hH⟩ := hH.lose_ (i := 0) rfl
     obtain rfl := Sh.some_inj h
     exact ⟨_, hle_3, ((t38_1 + (1 : Int)), (GUnit_run.mk r_3.files (putM y_1.name y_1 r_3.macros) r_3.told r_3.includes)), p_1, rfl, ⟨rfl, rfl, rfl, rfl, rfl, rfl, trivial⟩, hH⟩
    ·
     replace h := Sh.ite_neg hb h
     obtain rfl := Sh.some_inj h
     have e := hd_1 _ rfl
     subst e
     refine WpC.exit ?_
     exact ⟨(r_3, p_1), ⟨rfl, rfl, rfl, trivial⟩, hk_1, hH⟩
   ·
    rintro ⟨r_4, p_2⟩ env H' ⟨h, hH⟩
    try dsimp only at h
    refine ⟨_, uD _, ?_⟩
    refine uC ?_
    refine uE rfl rfl (vC rfl rfl hH fun g_5 H' hH => ?_)
    refine WpOps.nil ?_
    refine WpC.seq ?_
    refine uC ?_
    obtain ⟨r_5, hr_3, h⟩ := Sh.bind_some h
    refine uA 2 rfl trivial ?_
    have hH := hH.front (i := 3) rfl
    have hH := hH.front (i := 2) rfl
    have hH := hH.front (i := 3) rfl
    refine uE rfl rfl (vI 3 (V := fun b : (Option (Nat × Nat)) => ((errA r_5.1))) (A := fun b : (Option (Nat × Nat)) => [.cell g_3 67 [(AV.rows 2 (List.map cGFile r_5.2.files)), .lit (.map (some g_2)), .own (List.map cGTok r_5.2.told).length b, (iA r_5.2.includes)], .own 50 6 b (List.map cGTok r_5.2.told), .many (mapP g_2 r_5.2.macros)]) rfl rfl rfl hH (fun H1 hl hh => w_unit_run_file (hG.le hl) hr_3 hh) fun p_3 H' hH => ?_)
    have hH : Holds H0 [.cell g_3 67 [(AV.rows 2 (List.map cGFile r_5.2.files)), .lit (.map (some g_2)), .own (List.map cGTok r_5.2.told).length p_3, (iA r_5.2.includes)], .own 50 6 p_3 (List.map cGTok r_5.2.told), .many (mapP g_2 r_5.2.macros), .cell g_5 70 (cPtr (none : Option GFault)), .cell g_1 39 (cGFault (GFault.mk (0 : Int) (0 : Int) (0 : Int)))] _ := hH
    have hH := hH.back 3
    have hH := hH.back 2
    have hH := hH.back 3
    have hH : Holds H0 [.cell g_5 70 (cPtr (none : Option GFault)), .own 50 6 p_3 (List.map cGTok r_5.2.told), .cell g_3 67 [(AV.rows 2 (List.map cGFile r_5.2.files)), .lit (.map (some g_2)), .own (List.map cGTok r_5.2.told).length p_3, (iA r_5.2.includes)], .many (mapP g_2 r_5.2.macros), .cell g_1 39 (cGFault (GFault.mk (0 : Int) (0 : Int) (0 : Int)))] _ := hH
    refine uA 1 rfl trivial ?_
    refine uE rfl rfl (vH (v := bA (r_5.1).isSome) (r' := .cell g_5 70 [ptrA r_5.1]) rfl rfl (forceL_two rfl rfl) hH (i := 0) rfl (fun H1 hl hh => w_errAs (hG.le hl) r_5.1 hh) fun H' hH => ?_)
    refine WpOps.nil ?_
    refine uF rfl (fun hb => ?_) (fun hb => ?_)
    ·
     replace h := Sh.ite_pos hb h
     refine vO [.S, .I, .I, .I, .I, .E] [0, 1, 2, 3, 4, 5] (by kernel_rfl) (by kernel_rfl) ?_
     obtain ⟨fa_1, hfa_1, h⟩ := Sh.bind_some h
     refine uT (v := (.rop (cGFault fa_1))) rfl rfl rfl rfl (Exact.load rfl rfl (hH.cell (i := 0) rfl) rfl (by rw [hfa_1]; rfl)) ?_
     refine uK 2 rfl trivial ?_
     refine uV (v := (AV.agg (cGFault fa_1))) rfl rfl rfl rfl (fun _ => uG rfl rfl rfl) ?_
     refine uK 1 rfl trivial ?_
     refine vM rfl rfl rfl rfl (uQ (cs' := (cGFault fa_1)) (v := (AV.agg (cGFault fa_1))) rfl rfl hH (i := 4) rfl rfl rfl rfl rfl rfl rfl fun H' hH => ?_)
     refine WpPi.nil ?_
     refine WpC.sub (t := 6) (Sub.nil 6) ?_
     refine uP (i := 0) hH rfl (fun H' hH => ?_)
     refine uP (i := 0) hH rfl (fun H' hH => ?_)
     refine uP (i := 0) hH rfl (fun H' hH => ?_)
     refine uP (i := 0) hH rfl (fun H' hH => ?_)
     obtain rfl := Sh.some_inj h
     refine WpC.ret ?_
     have hr := hH
     obtain ⟨_, hle_4, hx_3⟩ := hH.lose_ (i := 0) rfl
     exact vZ rfl (.tmp rfl (.cell rfl (hH.cell (i := 0) rfl) rfl rfl .nil)) ⟨_, _, Up.drop hle_4 _, rfl, hx_3⟩
    ·
     replace h := Sh.ite_neg hb h
     refine uI ?_
     refine ⟨_, uD _, ?_⟩
     refine uC ?_
     refine uA 3 rfl trivial ?_
     refine uB (v := (.own (List.map cGTok r_5.2.told).length p_3)) rfl rfl (Exact.load rfl rfl (hH.cell (i := 2) rfl) rfl rfl) ?_
     refine uA 2 rfl trivial ?_
     refine uE rfl rfl (uQ (cs' := (cGFault (GFault.mk (0 : Int) (0 : Int) (0 : Int)))) (v := (AV.agg (cGFault (GFault.mk (0 : Int) (0 : Int) (0 : Int))))) rfl rfl hH (i := 4) rfl rfl rfl rfl rfl rfl rfl fun H' hH => ?_)
     refine WpOps.nil ?_
     refine vJ (t := 6) (i := 1) hH rfl rfl (fun H' hH => ?_)
     refine uP (i := 0) hH rfl (fun H' hH => ?_)
     refine uP (i := 0) hH rfl (fun H' hH => ?_)
     refine uP (i := 0) hH rfl (fun H' hH => ?_)
     obtain rfl := Sh.some_inj h
     refine WpC.ret ?_
     have hr := hH
     obtain ⟨_, hle_5, hx_4⟩ := hH.lose_ (i := 0) rfl
     exact vZ rfl (.tmp rfl (.cell rfl (hH.cell (i := 0) rfl) rfl rfl .nil)) ⟨_, _, Up.drop hle_5 _, rfl, hx_4⟩
theorem w_emendref07_escaped {H0 : Heap} {t_1 : GTok} {r : List UInt8} (h : emendref07_escaped t_1 = some r) : TCall Tryz.prog 46 [(AV.agg (cGTok t_1))] H0 (fun v H' => v = (sA r) ∧ H' = H0) noE := by
 refine id (TCall.body Tryz.func46 rfl rfl ?_)
 have hH : Holds H0 [] H0 := rfl
 refine uC ?_
 refine uE rfl rfl (vF (v := (AV.agg (cGTok t_1))) rfl rfl hH fun g_1 H' hH => ?_)
 refine uA 1 rfl trivial ?_
 refine WpOps.nil ?_
 refine uC ?_
 refine uA 1 rfl trivial ?_
 refine WpOps.nil ?_
 refine WpC.seq ?_
 refine uC ?_
 refine uA 1 rfl trivial ?_
 refine WpOps.nil ?_
 refine vA (fun x : (List UInt8) × (Unit) => [(3, (sA x.1))]) (fun x H' => emendref07_escaped_j1 x.1 = some r ∧ Holds H0 [] H') ?_ ?_
 ·
  obtain ⟨o_1, ho_1, hk_1⟩ := Sh.bind_some h
  refine uX (emendref07_escaped_b2 t_1) (fun (s : List UInt8 × Int) (a : Unit) => [(1, (.lit (.pointer (some ⟨g_1, 0, none⟩)))), (3, (sA s.1)), (4, (iA s.2))]) (fun (s : List UInt8 × Int) (a : Unit) H' => Holds H0 [.cell g_1 50 (cGTok t_1)] H') o_1 (([] : List UInt8), (0 : Int)) () ho_1 ⟨rfl, rfl, rfl, trivial⟩ hH ?_
  rintro ⟨s_1, i_1⟩ _ st_1 env H' h hd_1 hH
  refine WpC.seq ?_
  refine uC ?_
  refine uA 2 rfl trivial ?_
  refine uB (v := (sA t_1.text)) rfl rfl (Exact.load rfl rfl (hH.cell (i := 0) rfl) rfl rfl) ?_
  refine uA 2 rfl trivial ?_
  refine WpOps.nil ?_
  refine uF rfl (fun hb => ?_) (fun hb => ?_)
  ·
   replace h := Sh.ite_pos hb h
   refine uI ?_
   refine ⟨_, uD _, ?_⟩
   refine WpC.seq ?_
   refine WpC.block ?_
   refine uC ?_
   refine uA 1 rfl trivial ?_
   refine uB (v := (sA t_1.text)) rfl rfl (Exact.load rfl rfl (hH.cell (i := 0) rfl) rfl rfl) ?_
   obtain ⟨ch_1, hch_1, h⟩ := Sh.bind_some h
   refine uA 1 rfl trivial ?_
   refine uB (v := (u8A ch_1)) rfl rfl (Exact.ixs hch_1 rfl rfl rfl rfl) ?_
   refine uA 1 rfl trivial ?_
   refine WpOps.nil ?_
   refine vG (fun x : (List UInt8) × (Unit) => [(1, (.lit (.pointer (some ⟨g_1, 0, none⟩)))), (3, (sA x.1)), (4, (iA i_1)), (5, (u8A ch_1))]) (fun x H' => (emendref07_escaped_j3 i_1 ch_1) x.1 = some st_1 ∧ Holds H0 [.cell g_1 50 (cGTok t_1)] H') ?_ ?_
   ·
    refine uC ?_
    refine uA 2 rfl trivial ?_
    obtain ⟨b_1, g_2, h⟩ := Sh.bind_some h
    refine uM 4 22 (bA b_1) rfl ?_ ?_
    ·
     refine uA 1 rfl trivial ?_
     refine uL 19 rfl (fun hb => ?_) (fun hb => ?_)
     ·
      replace g_2 := Sh.ite_pos hb g_2
      refine uA 3 rfl trivial ?_
      refine WpOps.nil ?_
      obtain rfl := Sh.some_inj g_2
      exact ⟨rfl, rfl⟩
     ·
      replace g_2 := Sh.ite_neg hb g_2
      refine uA 3 rfl trivial ?_
      refine WpOps.nil ?_
      obtain rfl := Sh.some_inj g_2
      exact ⟨rfl, rfl⟩
    intro env
    obtain ⟨b_2, g_3, h⟩ := Sh.bind_some h
    refine uM 10 32 (bA b_2) rfl ?_ ?_
    ·
     refine uA 1 rfl trivial ?_
     refine uL 23 rfl (fun hb => ?_) (fun hb => ?_)
     ·
      replace g_3 := Sh.ite_pos hb g_3
      refine uA 1 rfl trivial ?_
      refine uB (v := (iA t_1.kind)) rfl rfl (Exact.load rfl rfl (hH.cell (i := 0) rfl) rfl rfl) ?_
      refine uA 1 rfl trivial ?_
      obtain ⟨b_3, g_4, g_3⟩ := Sh.bind_some g_3
      refine uM 5 31 (bA b_3) rfl ?_ ?_
      ·
       refine uA 1 rfl trivial ?_
       refine uL 27 rfl (fun hb => ?_) (fun hb => ?_)
       ·
        replace g_4 := Sh.ite_pos hb g_4
        refine uA 4 rfl trivial ?_
        refine WpOps.nil ?_
        obtain rfl := Sh.some_inj g_4
        exact ⟨rfl, rfl⟩
       ·
        replace g_4 := Sh.ite_neg hb g_4
        refine uA 1 rfl trivial ?_
        refine uB (v := (iA t_1.kind)) rfl rfl (Exact.load rfl rfl (hH.cell (i := 0) rfl) rfl rfl) ?_
        refine uA 2 rfl trivial ?_
        refine WpOps.nil ?_
        obtain rfl := Sh.some_inj g_4
        exact ⟨rfl, rfl⟩
      intro env
      refine uA 1 rfl trivial ?_
      refine WpOps.nil ?_
      obtain rfl := Sh.some_inj g_3
      exact ⟨rfl, rfl⟩
     ·
      replace g_3 := Sh.ite_neg hb g_3
      refine uA 9 rfl trivial ?_
      refine WpOps.nil ?_
      obtain rfl := Sh.some_inj g_3
      exact ⟨rfl, rfl⟩
    intro env
    refine WpOps.nil ?_
    refine uF rfl (fun hb => ?_) (fun hb => ?_)
    ·
     replace h := Sh.ite_pos hb h
     refine uJ ?_
     refine uA 1 rfl trivial ?_
     refine uB (v := (AV.rows 1 (List.map cU ([(92 : UInt8)] : List UInt8)))) rfl rfl (uW rfl (by kernel_rfl)) ?_
     refine uB (v := (sA ([(92 : UInt8)] : List UInt8))) rfl rfl (vX (bs := ([(92 : UInt8)] : List UInt8)) rfl rfl rfl rfl rfl (.rows _)) ?_
     obtain ⟨c_1, h⟩ := Sh.chk_some h
     refine uA 2 rfl c_1 ?_
     refine WpOps.nil ?_
     exact ⟨_, (uD _), ((s_1 ++ ([(92 : UInt8)] : List UInt8)), ()), ⟨rfl, rfl, rfl, rfl, trivial⟩, h, hH⟩
    ·
     replace h := Sh.ite_neg hb h
     refine uI ?_
     exact ⟨_, (uD _), (s_1, ()), ⟨rfl, rfl, rfl, rfl, trivial⟩, h, hH⟩
   ·
    rintro ⟨s_2, _⟩ env H' ⟨h, hH⟩
    try dsimp only at h
    refine uJ ?_
    refine uA 2 rfl trivial ?_
    refine uB (v := (AV.rows 1 (List.map cU ([ch_1] : List UInt8)))) rfl rfl (uW rfl (by kernel_rfl)) ?_
    refine uB (v := (sA ([ch_1] : List UInt8))) rfl rfl (vX (bs := ([ch_1] : List UInt8)) rfl rfl rfl rfl rfl (.rows _)) ?_
    obtain ⟨c_2, h⟩ := Sh.chk_some h
    refine uA 2 rfl c_2 ?_
    refine WpOps.nil ?_
    refine ⟨_, uD _, ?_⟩
    refine uJ ?_
    obtain ⟨c_3, h⟩ := Sh.chk_some h
    refine uA 3 rfl c_3 ?_
    refine WpOps.nil ?_
    obtain rfl := Sh.some_inj h
    exact ⟨_, (uD _), ((s_2 ++ ([ch_1] : List UInt8)), (i_1 + (1 : Int))), (), rfl, ⟨rfl, rfl, rfl, trivial⟩, hH⟩
  ·
   replace h := Sh.ite_neg hb h
   refine uP (i := 0) hH rfl (fun H' hH => ?_)
   obtain rfl := Sh.some_inj h
   have e := hd_1 _ rfl
   subst e
   refine WpC.exit ?_
   exact ⟨(s_1, ()), ⟨rfl, trivial⟩, hk_1, hH⟩
 ·
  rintro ⟨s_3, _⟩ env H' ⟨h, hH⟩
  try dsimp only at h
  refine ⟨_, uD _, ?_⟩
  refine uC ?_
  refine uA 2 rfl trivial ?_
  refine WpOps.nil ?_
  obtain rfl := Sh.some_inj h
  refine WpC.ret ?_
  exact uH rfl rfl ⟨rfl, hH⟩
theorem w_emendref07_Text {H0 : Heap} {l_1 : List GTok} {quoted_1 : Bool} {r : List UInt8} (h : emendref07_Text l_1 quoted_1 = some r) : TCall Tryz.prog 23 [(AV.rows 6 (List.map cGTok l_1)), (bA quoted_1)] H0 (fun v H' => v = (sA r) ∧ H' = H0) noE := by
 refine id (TCall.body Tryz.func23 rfl rfl ?_)
 have hH : Holds H0 [] H0 := rfl
 refine uC ?_
 refine uA 1 rfl trivial ?_
 refine WpOps.nil ?_
 refine uC ?_
 refine uA 1 rfl trivial ?_
 refine WpOps.nil ?_
 refine uC ?_
 refine uA 1 rfl trivial ?_
 refine WpOps.nil ?_
 refine WpC.seq ?_
 refine uC ?_
 refine uA 1 rfl trivial ?_
 refine WpOps.nil ?_
 refine vA (fun x : (List UInt8) × (Unit) => [(5, (sA x.1))]) (fun x H' => emendref07_Text_j1 x.1 = some r ∧ Holds H0 [] H') ?_ ?_
 ·
  obtain ⟨o_1, ho_1, hk_1⟩ := Sh.bind_some h
  refine uX (emendref07_Text_b2 l_1 quoted_1) (fun (s : List UInt8 × Int × Int) (a : Unit) => [(0, (AV.rows 6 (List.map cGTok l_1))), (1, (bA quoted_1)), (5, (sA s.1)), (6, (iA s.2.1)), (7, (iA s.2.2))]) (fun (s : List UInt8 × Int × Int) (a : Unit) H' => Holds H0 [] H') o_1 (([] : List UInt8), (-1 : Int), (0 : Int)) () ho_1 ⟨rfl, rfl, rfl, rfl, rfl, trivial⟩ hH ?_
  rintro ⟨s_1, last_1, i_1⟩ _ st_1 env H' h hd_1 hH
  refine WpC.seq ?_
  refine uC ?_
  refine uA 3 rfl trivial ?_
  refine uN 10 (len_map _ _) ?_
  refine uA 1 rfl trivial ?_
  refine WpOps.nil ?_
  refine uF rfl (fun hb => ?_) (fun hb => ?_)
  ·
   replace h := Sh.ite_pos hb h
   refine uI ?_
   refine ⟨_, uD _, ?_⟩
   refine WpC.seq ?_
   refine WpC.block ?_
   refine WpC.seq ?_
   refine uC ?_
   obtain ⟨y_1, hy_1, h⟩ := Sh.bind_some h
   refine uA 2 rfl trivial ?_
   refine uB (v := (.rop (cGTok y_1))) rfl rfl (uR cGTok hy_1 rfl rfl rfl rfl (by kernel_rfl) (by decide)) ?_
   refine uA 1 rfl trivial ?_
   refine uB (v := (iA y_1.kind)) rfl rfl (uG rfl rfl rfl) ?_
   refine uA 1 rfl trivial ?_
   refine WpOps.nil ?_
   refine uF rfl (fun hb => ?_) (fun hb => ?_)
   ·
    replace h := Sh.ite_pos hb h
    refine WpC.exitD ?_
    refine ⟨_, uD _, ?_⟩
    refine uJ ?_
    obtain ⟨c_1, h⟩ := Sh.chk_some h
    refine uA 3 rfl c_1 ?_
    refine WpOps.nil ?_
    obtain rfl := Sh.some_inj h
    exact ⟨_, (uD _), (s_1, last_1, (i_1 + (1 : Int))), (), rfl, ⟨rfl, rfl, rfl, rfl, rfl, trivial⟩, hH⟩
   ·
    replace h := Sh.ite_neg hb h
    refine uI ?_
    refine ⟨_, uD _, ?_⟩
    refine vG (fun x : (List UInt8) × (Unit) => [(0, (AV.rows 6 (List.map cGTok l_1))), (1, (bA quoted_1)), (5, (sA x.1)), (7, (iA i_1))]) (fun x H' => (emendref07_Text_j3 l_1 quoted_1 i_1) x.1 = some st_1 ∧ Holds H0 [] H') ?_ ?_
    ·
     refine uC ?_
     refine uA 2 rfl trivial ?_
     obtain ⟨b_1, g_1, h⟩ := Sh.bind_some h
     refine uM 13 34 (bA b_1) rfl ?_ ?_
     ·
      refine uA 1 rfl trivial ?_
      refine uL 22 rfl (fun hb => ?_) (fun hb => ?_)
      ·
       replace g_1 := Sh.ite_pos hb g_1
       obtain ⟨y_2, hy_2, g_1⟩ := Sh.bind_some g_1
       refine uA 2 rfl trivial ?_
       refine uB (v := (.rop (cGTok y_2))) rfl rfl (uR cGTok hy_2 rfl rfl rfl rfl (by kernel_rfl) (by decide)) ?_
       refine uA 1 rfl trivial ?_
       refine uB (v := (bA y_2.blank)) rfl rfl (uG rfl rfl rfl) ?_
       obtain ⟨b_2, g_2, g_1⟩ := Sh.bind_some g_1
       refine uM 6 33 (bA b_2) rfl ?_ ?_
       ·
        refine uA 1 rfl trivial ?_
        refine uL 28 rfl (fun hb => ?_) (fun hb => ?_)
        ·
         replace g_2 := Sh.ite_pos hb g_2
         refine uA 5 rfl trivial ?_
         refine WpOps.nil ?_
         obtain rfl := Sh.some_inj g_2
         exact ⟨rfl, rfl⟩
        ·
         replace g_2 := Sh.ite_neg hb g_2
         obtain ⟨c_2, g_2⟩ := Sh.chk_some g_2
         refine uA 5 rfl c_2 ?_
         refine WpOps.nil ?_
         obtain rfl := Sh.some_inj g_2
         exact ⟨rfl, rfl⟩
       intro env
       refine uA 1 rfl trivial ?_
       refine WpOps.nil ?_
       obtain rfl := Sh.some_inj g_1
       exact ⟨rfl, rfl⟩
      ·
       replace g_1 := Sh.ite_neg hb g_1
       refine uA 12 rfl trivial ?_
       refine WpOps.nil ?_
       obtain rfl := Sh.some_inj g_1
       exact ⟨rfl, rfl⟩
     intro env
     refine WpOps.nil ?_
     refine uF rfl (fun hb => ?_) (fun hb => ?_)
     ·
      replace h := Sh.ite_pos hb h
      refine uJ ?_
      obtain ⟨c_3, h⟩ := Sh.chk_some h
      refine uA 3 rfl c_3 ?_
      refine WpOps.nil ?_
      exact ⟨_, (uD _), ((s_1 ++ ([32] : List UInt8)), ()), ⟨rfl, rfl, rfl, rfl, trivial⟩, h, hH⟩
     ·
      replace h := Sh.ite_neg hb h
      refine uI ?_
      exact ⟨_, (uD _), (s_1, ()), ⟨rfl, rfl, rfl, rfl, trivial⟩, h, hH⟩
    ·
     rintro ⟨s_2, _⟩ env H' ⟨h, hH⟩
     try dsimp only at h
     refine uC ?_
     refine uA 2 rfl trivial ?_
     refine WpOps.nil ?_
     refine uC ?_
     refine uA 1 rfl trivial ?_
     refine WpOps.nil ?_
     refine uF rfl (fun hb => ?_) (fun hb => ?_)
     ·
      replace h := Sh.ite_pos hb h
      refine uJ ?_
      obtain ⟨y_3, hy_3, h⟩ := Sh.bind_some h
      refine uA 3 rfl trivial ?_
      refine uB (v := (.rop (cGTok y_3))) rfl rfl (uR cGTok hy_3 rfl rfl rfl rfl (by kernel_rfl) (by decide)) ?_
      refine uB (v := (AV.agg (cGTok y_3))) rfl rfl (uG rfl rfl rfl) ?_
      obtain ⟨r_1, hr_1, h⟩ := Sh.bind_some h
      refine uB (v := (sA r_1)) rfl rfl (Exact.call rfl rfl rfl (w_emendref07_escaped hr_1)) ?_
      obtain ⟨c_4, h⟩ := Sh.chk_some h
      refine uA 2 rfl c_4 ?_
      refine WpOps.nil ?_
      refine ⟨_, uD _, ?_⟩
      refine uJ ?_
      obtain ⟨c_5, h⟩ := Sh.chk_some h
      refine uA 3 rfl c_5 ?_
      refine WpOps.nil ?_
      obtain rfl := Sh.some_inj h
      exact ⟨_, (uD _), ((s_2 ++ r_1), i_1, (i_1 + (1 : Int))), (), rfl, ⟨rfl, rfl, rfl, rfl, rfl, trivial⟩, hH⟩
     ·
      replace h := Sh.ite_neg hb h
      refine uJ ?_
      obtain ⟨y_4, hy_4, h⟩ := Sh.bind_some h
      refine uA 3 rfl trivial ?_
      refine uB (v := (.rop (cGTok y_4))) rfl rfl (uR cGTok hy_4 rfl rfl rfl rfl (by kernel_rfl) (by decide)) ?_
      refine uA 1 rfl trivial ?_
      refine uB (v := (sA y_4.text)) rfl rfl (uG rfl rfl rfl) ?_
      obtain ⟨c_6, h⟩ := Sh.chk_some h
      refine uA 2 rfl c_6 ?_
      refine WpOps.nil ?_
      refine ⟨_, uD _, ?_⟩
      refine uJ ?_
      obtain ⟨c_7, h⟩ := Sh.chk_some h
      refine uA 3 rfl c_7 ?_
      refine WpOps.nil ?_
      obtain rfl := Sh.some_inj h
      exact ⟨_, (uD _), ((s_2 ++ y_4.text), i_1, (i_1 + (1 : Int))), (), rfl, ⟨rfl, rfl, rfl, rfl, rfl, trivial⟩, hH⟩
  ·
   replace h := Sh.ite_neg hb h
   obtain rfl := Sh.some_inj h
   have e := hd_1 _ rfl
   subst e
   refine WpC.exit ?_
   exact ⟨(s_1, ()), ⟨rfl, trivial⟩, hk_1, hH⟩
 ·
  rintro ⟨s_3, _⟩ env H' ⟨h, hH⟩
  try dsimp only at h
  refine ⟨_, uD _, ?_⟩
  refine uC ?_
  refine uA 2 rfl trivial ?_
  refine WpOps.nil ?_
  obtain rfl := Sh.some_inj h
  refine WpC.ret ?_
  exact uH rfl rfl ⟨rfl, hH⟩
theorem w_emendtop_comes {H0 : Heap} (hG : Glob H0) {text_1 : List UInt8} {defs_1 : List (List UInt8)} {r : List UInt8 × Int} (h : emendtop_comes text_1 defs_1 = some r) : TCall Tryz.prog 12 [(sA text_1), (AV.rows 1 (List.map cS defs_1))] H0 (fun v H' => v = (.tup [(sA r.1), (iA r.2)]) ∧ H' = H0) noE := by
 refine id (TCall.body Tryz.func12 rfl rfl ?_)
 have hH : Holds H0 [] H0 := rfl
 refine uC ?_
 refine uA 2 rfl trivial ?_
 refine WpOps.nil ?_
 refine uC ?_
 obtain ⟨r_1, hr_1, h⟩ := Sh.bind_some h
 refine uA 1 rfl trivial ?_
 refine uB (v := (AV.rows 2 (List.map cGFile r_1))) rfl rfl (Exact.call rfl rfl rfl (w_emendtop_one hr_1)) ?_
 obtain ⟨r_2, hr_2, h⟩ := Sh.bind_some h
 refine uA 1 rfl trivial ?_
 refine uB (v := (.tup [(AV.rows 6 (List.map cGTok r_2.1)), (AV.agg (cGFault r_2.2))])) rfl rfl (Exact.call rfl rfl rfl (w_unit_Run (hG.up hH) hr_2)) ?_
 refine uA 3 rfl trivial ?_
 refine uE rfl rfl (vC (z := cGFault (GFault.mk (0 : Int) (0 : Int) (0 : Int))) rfl rfl hH fun g_1 H' hH => ?_)
 refine uA 1 rfl trivial ?_
 refine uE rfl rfl (uQ (cs' := (cGFault r_2.2)) (v := (AV.agg (cGFault r_2.2))) rfl rfl hH (i := 0) rfl rfl rfl rfl rfl rfl rfl fun H' hH => ?_)
 refine WpOps.nil ?_
 refine vO [.I, .I, .I, .S] [0, 1, 2, 3, 4, 5] (by kernel_rfl) (by kernel_rfl) ?_
 obtain ⟨r_3, hr_3, h⟩ := Sh.bind_some h
 refine uK 1 rfl trivial ?_
 refine uV (v := (sA r_3)) rfl rfl rfl rfl (fun _ => Exact.call rfl rfl rfl (w_emendref07_Text hr_3)) ?_
 refine uK 1 rfl trivial ?_
 refine uT (v := (iA r_2.2.e)) rfl rfl rfl rfl (Exact.load rfl rfl (hH.cell (i := 0) rfl) rfl rfl) ?_
 refine uK 2 rfl trivial ?_
 refine WpPi.nil ?_
 refine uP (i := 0) hH rfl (fun H' hH => ?_)
 obtain rfl := Sh.some_inj h
 refine WpC.ret ?_
 exact uU rfl rfl rfl ⟨rfl, hH⟩
theorem w_emendtop_alive {H0 : Heap} (hG : Glob H0)  {r : Bool} (h : emendtop_alive  = some r) : TCall Tryz.prog 8 [] H0 (fun v H' => v = (bA r) ∧ H' = H0) noE := by
 refine id (TCall.body Tryz.func8 rfl rfl ?_)
 have hH : Holds H0 [] H0 := rfl
 refine uC ?_
 refine uA 1 rfl trivial ?_
 refine WpOps.nil ?_
 refine uC ?_
 obtain ⟨r_1, hr_1, h⟩ := Sh.bind_some h
 refine uB (v := (.tup [(sA r_1.1), (iA r_1.2)])) rfl rfl (Exact.call rfl rfl rfl (TCall.args (.cons (.refl _) (.cons (Sub.nil 1) .nil)) (w_emendtop_comes (hG.up hH) hr_1))) ?_
 refine uA 5 rfl trivial ?_
 refine WpOps.nil ?_
 refine uC ?_
 refine uA 2 rfl trivial ?_
 obtain ⟨b_1, g_1, h⟩ := Sh.bind_some h
 refine uM 4 12 (bA b_1) rfl ?_ ?_
 ·
  refine uA 1 rfl trivial ?_
  refine uL 9 rfl (fun hb => ?_) (fun hb => ?_)
  ·
   replace g_1 := Sh.ite_pos hb g_1
   refine uA 3 rfl trivial ?_
   refine WpOps.nil ?_
   obtain rfl := Sh.some_inj g_1
   exact ⟨rfl, rfl⟩
  ·
   replace g_1 := Sh.ite_neg hb g_1
   refine uA 3 rfl trivial ?_
   refine WpOps.nil ?_
   obtain rfl := Sh.some_inj g_1
   exact ⟨rfl, rfl⟩
 intro env
 refine uA 1 rfl trivial ?_
 refine WpOps.nil ?_
 obtain rfl := Sh.some_inj h
 refine WpC.ret ?_
 exact uH rfl rfl ⟨rfl, hH⟩
theorem w_emendtop_plain {H0 : Heap} {s_1 : List UInt8} {most_1 : Int} {signs_1 : List UInt8} {r : Bool} (h : emendtop_plain s_1 most_1 signs_1 = some r) : TCall Tryz.prog 9 [(sA s_1), (iA most_1), (sA signs_1)] H0 (fun v H' => v = (bA r) ∧ H' = H0) noE := by
 refine id (TCall.body Tryz.func9 rfl rfl ?_)
 have hH : Holds H0 [] H0 := rfl
 refine uC ?_
 refine uA 1 rfl trivial ?_
 refine WpOps.nil ?_
 refine WpC.seq ?_
 refine uC ?_
 refine uA 4 rfl trivial ?_
 refine WpOps.nil ?_
 refine uF rfl (fun hb => ?_) (fun hb => ?_)
 ·
  replace h := Sh.ite_pos hb h
  refine uC ?_
  refine uA 1 rfl trivial ?_
  refine WpOps.nil ?_
  obtain rfl := Sh.some_inj h
  refine WpC.ret ?_
  exact uH rfl rfl ⟨rfl, hH⟩
 ·
  replace h := Sh.ite_neg hb h
  refine uI ?_
  refine ⟨_, uD _, ?_⟩
  refine WpC.seq ?_
  refine uC ?_
  refine uA 1 rfl trivial ?_
  refine WpOps.nil ?_
  refine vA (fun x : (Unit) × (Unit) => []) (fun x H' => emendtop_plain_j1 x.1 = some r ∧ Holds H0 [] H') ?_ ?_
  ·
   obtain ⟨o_1, ho_1, hk_1⟩ := Sh.bind_some h
   refine uX (emendtop_plain_b2 s_1 signs_1) (fun (s : Int) (a : Unit) => [(0, (sA s_1)), (2, (sA signs_1)), (7, (iA s))]) (fun (s : Int) (a : Unit) H' => Holds H0 [] H') o_1 (0 : Int) () ho_1 ⟨rfl, rfl, rfl, trivial⟩ hH ?_
   rintro i_1 _ st_1 env H' h hd_1 hH
   refine WpC.seq ?_
   refine uC ?_
   refine uA 4 rfl trivial ?_
   refine WpOps.nil ?_
   refine uF rfl (fun hb => ?_) (fun hb => ?_)
   ·
    replace h := Sh.ite_pos hb h
    refine uI ?_
    refine ⟨_, uD _, ?_⟩
    refine WpC.seq ?_
    refine WpC.block ?_
    refine uC ?_
    refine uA 1 rfl trivial ?_
    refine WpOps.nil ?_
    refine vA (fun x : (Unit) × (Unit) => [(0, (sA s_1)), (2, (sA signs_1)), (7, (iA i_1))]) (fun x H' => (emendtop_plain_j3 i_1) x.1 = some st_1 ∧ Holds H0 [] H') ?_ ?_
    ·
     obtain ⟨o_2, ho_2, hk_2⟩ := Sh.bind_some h
     refine uX (emendtop_plain_b4 s_1 signs_1 i_1) (fun (s : Int) (a : Unit) => [(0, (sA s_1)), (2, (sA signs_1)), (7, (iA i_1)), (8, (iA s))]) (fun (s : Int) (a : Unit) H' => Holds H0 [] H') o_2 (0 : Int) () ho_2 ⟨rfl, rfl, rfl, rfl, trivial⟩ hH ?_
     rintro k_1 _ st_2 env H' h hd_2 hH
     refine WpC.seq ?_
     refine uC ?_
     refine uA 4 rfl trivial ?_
     refine WpOps.nil ?_
     refine uF rfl (fun hb => ?_) (fun hb => ?_)
     ·
      replace h := Sh.ite_pos hb h
      refine uI ?_
      refine ⟨_, uD _, ?_⟩
      refine WpC.seq ?_
      refine WpC.block ?_
      refine vO [] [0, 1, 2, 3, 4, 5, 6] (by kernel_rfl) (by kernel_rfl) ?_
      obtain ⟨ch_1, hch_1, h⟩ := Sh.bind_some h
      refine uK 2 rfl trivial ?_
      refine uV (v := (u8A ch_1)) rfl rfl rfl rfl (fun _ => Exact.ixs hch_1 rfl rfl rfl rfl) ?_
      obtain ⟨ch_2, hch_2, h⟩ := Sh.bind_some h
      refine uK 2 rfl trivial ?_
      refine uV (v := (u8A ch_2)) rfl rfl rfl rfl (fun _ => Exact.ixs hch_2 rfl rfl rfl rfl) ?_
      refine uK 1 rfl trivial ?_
      refine WpPi.nil ?_
      refine uF rfl (fun hb => ?_) (fun hb => ?_)
      ·
       replace h := Sh.ite_pos hb h
       refine uC ?_
       refine uA 1 rfl trivial ?_
       refine WpOps.nil ?_
       obtain rfl := Sh.some_inj h
       have e := hd_2 _ rfl
       subst e
       have h := hk_2
       obtain rfl := Sh.some_inj h
       have e := hd_1 _ rfl
       subst e
       have h := hk_1
       obtain rfl := Sh.some_inj h
       refine WpC.ret ?_
       exact uH rfl rfl ⟨rfl, hH⟩
      ·
       replace h := Sh.ite_neg hb h
       refine uI ?_
       refine ⟨_, uD _, ?_⟩
       refine uJ ?_
       obtain ⟨c_1, h⟩ := Sh.chk_some h
       refine uA 3 rfl c_1 ?_
       refine WpOps.nil ?_
       obtain rfl := Sh.some_inj h
       exact ⟨_, (uD _), (k_1 + (1 : Int)), (), rfl, ⟨rfl, rfl, rfl, rfl, trivial⟩, hH⟩
     ·
      replace h := Sh.ite_neg hb h
      obtain rfl := Sh.some_inj h
      have e := hd_2 _ rfl
      subst e
      refine WpC.exit ?_
      exact ⟨((), ()), ⟨rfl, rfl, rfl, trivial⟩, hk_2, hH⟩
    ·
     rintro ⟨_, _⟩ env H' ⟨h, hH⟩
     try dsimp only at h
     refine ⟨_, uD _, ?_⟩
     refine uJ ?_
     obtain ⟨c_2, h⟩ := Sh.chk_some h
     refine uA 3 rfl c_2 ?_
     refine WpOps.nil ?_
     obtain rfl := Sh.some_inj h
     exact ⟨_, (uD _), (i_1 + (1 : Int)), (), rfl, ⟨rfl, rfl, rfl, trivial⟩, hH⟩
   ·
    replace h := Sh.ite_neg hb h
    obtain rfl := Sh.some_inj h
    have e := hd_1 _ rfl
    subst e
    refine WpC.exit ?_
    exact ⟨((), ()), trivial, hk_1, hH⟩
  ·
   rintro ⟨_, _⟩ env H' ⟨h, hH⟩
   try dsimp only at h
   refine ⟨_, uD _, ?_⟩
   refine uC ?_
   refine uA 1 rfl trivial ?_
   refine WpOps.nil ?_
   obtain rfl := Sh.some_inj h
   refine WpC.ret ?_
   exact uH rfl rfl ⟨rfl, hH⟩
theorem w_emendtop_TopIf {H0 : Heap} (hG : Glob H0) {s_1 : List UInt8} {r : Bool} (h : emendtop_TopIf s_1 = some r) : TCall Tryz.prog 6 [(sA s_1)] H0 (fun v H' => v = (bA r) ∧ H' = H0) noE := by
 refine id (TCall.body Tryz.func6 rfl rfl ?_)
 have hH : Holds H0 [] H0 := rfl
 refine uC ?_
 refine uA 1 rfl trivial ?_
 refine WpOps.nil ?_
 refine uC ?_
 obtain ⟨r_1, hr_1, h⟩ := Sh.bind_some h
 refine uB (v := (bA r_1)) rfl rfl (Exact.call rfl rfl rfl (w_emendtop_alive (hG.up hH) hr_1)) ?_
 refine uA 1 rfl trivial ?_
 refine WpOps.nil ?_
 refine uC ?_
 obtain ⟨r_2, hr_2, h⟩ := Sh.bind_some h
 refine uA 1 rfl trivial ?_
 refine uB (v := (bA r_2)) rfl rfl (Exact.call rfl rfl rfl (w_emendtop_plain hr_2)) ?_
 refine uA 1 rfl trivial ?_
 refine WpOps.nil ?_
 refine WpC.seq ?_
 refine uC ?_
 refine uA 2 rfl trivial ?_
 refine WpOps.nil ?_
 refine uF rfl (fun hb => ?_) (fun hb => ?_)
 ·
  replace h := Sh.ite_pos hb h
  refine uC ?_
  refine uA 2 rfl trivial ?_
  refine WpOps.nil ?_
  obtain rfl := Sh.some_inj h
  refine WpC.ret ?_
  exact uH rfl rfl ⟨rfl, hH⟩
 ·
  replace h := Sh.ite_neg hb h
  refine uI ?_
  refine ⟨_, uD _, ?_⟩
  refine uC ?_
  obtain ⟨r_3, hr_3, h⟩ := Sh.bind_some h
  refine uA 1 rfl trivial ?_
  refine uB (v := (AV.rows 6 (List.map cGTok r_3))) rfl rfl (Exact.call rfl rfl rfl (w_pptok_Tokens (hG.up hH) hr_3)) ?_
  refine uA 1 rfl trivial ?_
  refine WpOps.nil ?_
  refine uC ?_
  obtain ⟨r_4, hr_4, h⟩ := Sh.bind_some h
  refine uA 1 rfl trivial ?_
  refine uB (v := (.tup [(AV.rows 6 (List.map cGTok r_4.1)), (iA r_4.2)])) rfl rfl (Exact.call rfl rfl rfl (TCall.args (.cons (.refl _) (.cons (Sub.nil 1) .nil)) (w_ifexpr_Defined hr_4))) ?_
  refine uA 5 rfl trivial ?_
  refine WpOps.nil ?_
  refine uC ?_
  obtain ⟨c_1, h⟩ := Sh.chk_some h
  obtain ⟨c_2, h⟩ := Sh.chk_some h
  obtain ⟨r_5, hr_5, h⟩ := Sh.bind_some h
  refine uA 3 rfl ⟨c_2, c_1⟩ ?_
  refine uB (v := (.tup [(sA r_5.1), (iA r_5.2)])) rfl rfl (Exact.call rfl rfl rfl (TCall.args (.cons (.refl _) (.cons (Sub.nil 1) .nil)) (w_emendtop_comes (hG.up hH) hr_5))) ?_
  refine uA 5 rfl trivial ?_
  refine WpOps.nil ?_
  refine WpC.seq ?_
  refine uC ?_
  refine uA 2 rfl trivial ?_
  refine WpOps.nil ?_
  refine uF rfl (fun hb => ?_) (fun hb => ?_)
  ·
   replace h := Sh.ite_pos hb h
   refine uC ?_
   refine uA 1 rfl trivial ?_
   obtain ⟨b_1, g_1, h⟩ := Sh.bind_some h
   refine uM 5 39 (bA b_1) rfl ?_ ?_
   ·
    refine uA 1 rfl trivial ?_
    refine uL 35 rfl (fun hb => ?_) (fun hb => ?_)
    ·
     replace g_1 := Sh.ite_pos hb g_1
     refine uA 4 rfl trivial ?_
     refine WpOps.nil ?_
     obtain rfl := Sh.some_inj g_1
     exact ⟨rfl, rfl⟩
    ·
     replace g_1 := Sh.ite_neg hb g_1
     refine uA 4 rfl trivial ?_
     refine WpOps.nil ?_
     obtain rfl := Sh.some_inj g_1
     exact ⟨rfl, rfl⟩
   intro env
   refine uA 1 rfl trivial ?_
   refine WpOps.nil ?_
   obtain rfl := Sh.some_inj h
   refine WpC.ret ?_
   exact uH rfl rfl ⟨rfl, hH⟩
  ·
   replace h := Sh.ite_neg hb h
   refine uI ?_
   refine ⟨_, uD _, ?_⟩
   refine uC ?_
   obtain ⟨r_6, hr_6, h⟩ := Sh.bind_some h
   refine uA 1 rfl trivial ?_
   refine uB (v := (.tup [(iA r_6.1), (iA r_6.2)])) rfl rfl (Exact.call rfl rfl rfl (w_ifexpr_Eval (hG.up hH) hr_6)) ?_
   refine uA 5 rfl trivial ?_
   refine WpOps.nil ?_
   refine WpC.seq ?_
   refine uC ?_
   refine uA 2 rfl trivial ?_
   refine WpOps.nil ?_
   refine uF rfl (fun hb => ?_) (fun hb => ?_)
   ·
    replace h := Sh.ite_pos hb h
    refine uC ?_
    refine uA 1 rfl trivial ?_
    obtain ⟨b_2, g_2, h⟩ := Sh.bind_some h
    refine uM 5 52 (bA b_2) rfl ?_ ?_
    ·
     refine uA 1 rfl trivial ?_
     refine uL 48 rfl (fun hb => ?_) (fun hb => ?_)
     ·
      replace g_2 := Sh.ite_pos hb g_2
      refine uA 4 rfl trivial ?_
      refine WpOps.nil ?_
      obtain rfl := Sh.some_inj g_2
      exact ⟨rfl, rfl⟩
     ·
      replace g_2 := Sh.ite_neg hb g_2
      refine uA 4 rfl trivial ?_
      refine WpOps.nil ?_
      obtain rfl := Sh.some_inj g_2
      exact ⟨rfl, rfl⟩
    intro env
    refine uA 1 rfl trivial ?_
    refine WpOps.nil ?_
    obtain rfl := Sh.some_inj h
    refine WpC.ret ?_
    exact uH rfl rfl ⟨rfl, hH⟩
   ·
    replace h := Sh.ite_neg hb h
    refine uI ?_
    refine ⟨_, uD _, ?_⟩
    refine uC ?_
    refine uA 1 rfl trivial ?_
    obtain ⟨b_3, g_3, h⟩ := Sh.bind_some h
    refine uM 4 57 (bA b_3) rfl ?_ ?_
    ·
     refine uA 1 rfl trivial ?_
     refine uL 54 rfl (fun hb => ?_) (fun hb => ?_)
     ·
      replace g_3 := Sh.ite_pos hb g_3
      refine uA 3 rfl trivial ?_
      refine WpOps.nil ?_
      obtain rfl := Sh.some_inj g_3
      exact ⟨rfl, rfl⟩
     ·
      replace g_3 := Sh.ite_neg hb g_3
      refine uA 3 rfl trivial ?_
      refine WpOps.nil ?_
      obtain rfl := Sh.some_inj g_3
      exact ⟨rfl, rfl⟩
    intro env
    obtain ⟨b_4, g_4, h⟩ := Sh.bind_some h
    refine uM 16 73 (bA b_4) rfl ?_ ?_
    ·
     refine uA 1 rfl trivial ?_
     refine uL 58 rfl (fun hb => ?_) (fun hb => ?_)
     ·
      replace g_4 := Sh.ite_pos hb g_4
      refine uA 2 rfl trivial ?_
      obtain ⟨b_5, g_5, g_4⟩ := Sh.bind_some g_4
      refine uM 4 64 (bA b_5) rfl ?_ ?_
      ·
       refine uA 1 rfl trivial ?_
       refine uL 61 rfl (fun hb => ?_) (fun hb => ?_)
       ·
        replace g_5 := Sh.ite_pos hb g_5
        refine uA 3 rfl trivial ?_
        refine WpOps.nil ?_
        obtain rfl := Sh.some_inj g_5
        exact ⟨rfl, rfl⟩
       ·
        replace g_5 := Sh.ite_neg hb g_5
        refine uA 3 rfl trivial ?_
        refine WpOps.nil ?_
        obtain rfl := Sh.some_inj g_5
        exact ⟨rfl, rfl⟩
      intro env
      obtain ⟨b_6, g_6, g_4⟩ := Sh.bind_some g_4
      refine uM 8 72 (bA b_6) rfl ?_ ?_
      ·
       refine uA 1 rfl trivial ?_
       refine uL 65 rfl (fun hb => ?_) (fun hb => ?_)
       ·
        replace g_6 := Sh.ite_pos hb g_6
        refine uA 7 rfl trivial ?_
        refine WpOps.nil ?_
        obtain rfl := Sh.some_inj g_6
        exact ⟨rfl, rfl⟩
       ·
        replace g_6 := Sh.ite_neg hb g_6
        refine uA 2 rfl trivial ?_
        obtain ⟨b_7, g_7, g_6⟩ := Sh.bind_some g_6
        refine uM 4 71 (bA b_7) rfl ?_ ?_
        ·
         refine uA 1 rfl trivial ?_
         refine uL 68 rfl (fun hb => ?_) (fun hb => ?_)
         ·
          replace g_7 := Sh.ite_pos hb g_7
          refine uA 3 rfl trivial ?_
          refine WpOps.nil ?_
          obtain rfl := Sh.some_inj g_7
          exact ⟨rfl, rfl⟩
         ·
          replace g_7 := Sh.ite_neg hb g_7
          refine uA 3 rfl trivial ?_
          refine WpOps.nil ?_
          obtain rfl := Sh.some_inj g_7
          exact ⟨rfl, rfl⟩
        intro env
        refine uA 1 rfl trivial ?_
        refine WpOps.nil ?_
        obtain rfl := Sh.some_inj g_6
        exact ⟨rfl, rfl⟩
      intro env
      refine uA 1 rfl trivial ?_
      refine WpOps.nil ?_
      obtain rfl := Sh.some_inj g_4
      exact ⟨rfl, rfl⟩
     ·
      replace g_4 := Sh.ite_neg hb g_4
      refine uA 15 rfl trivial ?_
      refine WpOps.nil ?_
      obtain rfl := Sh.some_inj g_4
      exact ⟨rfl, rfl⟩
    intro env
    refine uA 1 rfl trivial ?_
    refine WpOps.nil ?_
    obtain rfl := Sh.some_inj h
    refine WpC.ret ?_
    exact uH rfl rfl ⟨rfl, hH⟩
end Go.Proofs.YtgmpeddopfnioaaGreatDoor
