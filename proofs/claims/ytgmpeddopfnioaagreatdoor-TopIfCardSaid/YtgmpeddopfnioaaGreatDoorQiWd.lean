/-
  Part of the proof of If.
-/
import Derived.Test.YtgmpeddopfnioaaGreatDoorQiWc

set_option linter.unusedVariables false
set_option linter.unusedSimpArgs false
set_option maxRecDepth 20000
set_option maxHeartbeats 8000000
namespace Go.Proofs.YtgmpeddopfnioaaGreatDoor
open Go Go.Vc Go.Sh
attribute [local irreducible] WpC WpOps WpPi WpPj WpO Exact TCall VEnds Sh.loopS DEnds
theorem w_macro_reader_word {H0 H : Heap} {r_1 : GMacro_reader} {e_1 : Int} {g_1 : Nat}  (hH : Holds H0 [.cell g_1 244 (cGMacro_reader r_1)] H) {r : Sum Int ((List UInt8) × GMacro_reader)} (h : macro_reader_word r_1 e_1 = some r) : TCall Tryz.prog 140 [(.lit (.pointer (some ⟨g_1, 0, none⟩))), (iA e_1)] H (fun v H' => ∃ x, r = Sum.inr x ∧ v = (sA x.1) ∧ ∃ b : Unit, Holds H0 [.cell g_1 244 (cGMacro_reader x.2)] H') (fun ch H' => ∃ e, r = Sum.inl e ∧ ch = pE e ∧ ∃ H2, Heap.le H2 H' ∧ ∃ y : {l : List AV // l.length = 1}, Holds H0 [.cell g_1 244 y.1] H2) := by
 refine TCall.body Tryz.func140 rfl rfl ?_
 refine uC ?_
 refine uA 1 rfl trivial ?_
 refine WpOps.nil ?_
 refine uC ?_
 refine uA 3 rfl trivial ?_
 refine uB (v := (AV.rows 6 (List.map cGTok r_1.l))) rfl rfl (Exact.load rfl rfl (hH.cell (i := 0) rfl) rfl rfl) ?_
 refine uA 1 rfl trivial ?_
 refine uN 10 (len_map _ _) ?_
 refine uA 1 rfl trivial ?_
 obtain ⟨b_1, g_2, h⟩ := Sh.bind_some h
 refine uM 10 21 (bA b_1) rfl ?_ ?_
 ·
  refine uA 1 rfl trivial ?_
  refine uL 12 rfl (fun hb => ?_) (fun hb => ?_)
  ·
   replace g_2 := Sh.ite_pos hb g_2
   refine uA 3 rfl trivial ?_
   refine uB (v := (AV.rows 6 (List.map cGTok r_1.l))) rfl rfl (Exact.load rfl rfl (hH.cell (i := 0) rfl) rfl rfl) ?_
   obtain ⟨y_1, hy_1, g_2⟩ := Sh.bind_some g_2
   refine uB (v := (.rop (cGTok y_1))) rfl rfl (uR cGTok hy_1 rfl rfl rfl rfl (by kernel_rfl) (by decide)) ?_
   refine uA 1 rfl trivial ?_
   refine uB (v := (iA y_1.kind)) rfl rfl (uG rfl rfl rfl) ?_
   refine uA 2 rfl trivial ?_
   refine WpOps.nil ?_
   obtain rfl := Sh.some_inj g_2
   exact ⟨rfl, rfl⟩
  ·
   replace g_2 := Sh.ite_neg hb g_2
   refine uA 9 rfl trivial ?_
   refine WpOps.nil ?_
   obtain rfl := Sh.some_inj g_2
   exact ⟨rfl, rfl⟩
 intro env
 obtain ⟨r_2, hr_1, h⟩ := Sh.bind_some h
 refine uA 1 rfl trivial ?_
 refine uE rfl rfl (wE (V := fun (y : Unit) => (.tup [])) rfl rfl rfl (w_macro_need hr_1) (fun y_2 hr => ?_) (fun er H' hr hl => ?_))
 rotate_left
 ·
  subst hr
  replace h := Sh.orP_inl h
  obtain rfl := Sh.some_inj h
  exact VEnds.pan ⟨er, rfl, rfl, _, hl, ⟨_, by first | rfl | exact yy.2 | exact yy.1.2 | exact yy.2.2⟩, hH⟩
 subst hr
 replace h := Sh.orP_inr h
 refine WpOps.nil ?_
 refine uC ?_
 refine uA 3 rfl trivial ?_
 refine uB (v := (AV.rows 6 (List.map cGTok r_1.l))) rfl rfl (Exact.load rfl rfl (hH.cell (i := 0) rfl) rfl rfl) ?_
 obtain ⟨y_3, hy_2, h⟩ := Sh.bind_some h
 refine uB (v := (.rop (cGTok y_3))) rfl rfl (uR cGTok hy_2 rfl rfl rfl rfl (by kernel_rfl) (by decide)) ?_
 refine uA 1 rfl trivial ?_
 refine uB (v := (sA y_3.text)) rfl rfl (uG rfl rfl rfl) ?_
 refine uA 1 rfl trivial ?_
 refine WpOps.nil ?_
 refine uC ?_
 refine uA 4 rfl trivial ?_
 refine uB (v := (AV.rows 6 (List.map cGTok r_1.l))) rfl rfl (Exact.load rfl rfl (hH.cell (i := 0) rfl) rfl rfl) ?_
 obtain ⟨c_1, h⟩ := Sh.chk_some h
 refine uA 1 rfl (show 0 ≤ (1 : Int) ∧ True ∧ True ∧ ((1 : Int)).toNat ≤ (List.map cGTok r_1.l).length ∧ True from ⟨(by omega), trivial, trivial, (by simp only [List.length_map]; omega), trivial⟩) ?_
 refine uN 36 (rows_drop 6 cGTok r_1.l _) ?_
 refine uA 2 rfl trivial ?_
 refine uE rfl rfl (uQ (cs' := (cGMacro_reader (GMacro_reader.mk (r_1.l.drop ((1 : Int)).toNat)))) (v := (AV.rows 6 (List.map cGTok (r_1.l.drop ((1 : Int)).toNat)))) rfl rfl hH (i := 0) rfl rfl rfl rfl rfl rfl rfl fun H' hH => ?_)
 refine WpOps.nil ?_
 refine uC ?_
 refine uA 2 rfl trivial ?_
 refine WpOps.nil ?_
 obtain rfl := Sh.some_inj h
 refine WpC.ret ?_
 exact uH rfl rfl ⟨_, rfl, rfl, (), hH⟩
theorem w_macro_reader_sign {H : Heap} {g_1 : Nat} {r_1 : GMacro_reader} {s_1 : List UInt8} (hg : H g_1 = some (.cells 244 (cGMacro_reader r_1))) {r : Bool} (h : macro_reader_sign r_1 s_1 = some r) : TCall Tryz.prog 142 [(.lit (.pointer (some ⟨g_1, 0, none⟩))), (sA s_1)] H (fun v H' => v = (bA r) ∧ H' = H) noE := by
 obtain ⟨H0, hH⟩ : ∃ H0, Holds H0 [.cell g_1 244 (cGMacro_reader r_1)] H := ⟨_, vR hg⟩
 refine TCall.held hH (id (TCall.body Tryz.func142 rfl rfl ?_))
 refine uC ?_
 refine uA 1 rfl trivial ?_
 refine WpOps.nil ?_
 refine uC ?_
 refine uA 3 rfl trivial ?_
 refine uB (v := (AV.rows 6 (List.map cGTok r_1.l))) rfl rfl (Exact.load rfl rfl (hH.cell (i := 0) rfl) rfl rfl) ?_
 refine uA 1 rfl trivial ?_
 refine uN 9 (len_map _ _) ?_
 refine uA 1 rfl trivial ?_
 obtain ⟨b_1, g_2, h⟩ := Sh.bind_some h
 refine uM 10 20 (bA b_1) rfl ?_ ?_
 ·
  refine uA 1 rfl trivial ?_
  refine uL 11 rfl (fun hb => ?_) (fun hb => ?_)
  ·
   replace g_2 := Sh.ite_pos hb g_2
   refine uA 3 rfl trivial ?_
   refine uB (v := (AV.rows 6 (List.map cGTok r_1.l))) rfl rfl (Exact.load rfl rfl (hH.cell (i := 0) rfl) rfl rfl) ?_
   obtain ⟨y_1, hy_1, g_2⟩ := Sh.bind_some g_2
   refine uB (v := (.rop (cGTok y_1))) rfl rfl (uR cGTok hy_1 rfl rfl rfl rfl (by kernel_rfl) (by decide)) ?_
   refine uA 1 rfl trivial ?_
   refine uB (v := (iA y_1.kind)) rfl rfl (uG rfl rfl rfl) ?_
   refine uA 2 rfl trivial ?_
   refine WpOps.nil ?_
   obtain rfl := Sh.some_inj g_2
   exact ⟨rfl, rfl⟩
  ·
   replace g_2 := Sh.ite_neg hb g_2
   refine uA 9 rfl trivial ?_
   refine WpOps.nil ?_
   obtain rfl := Sh.some_inj g_2
   exact ⟨rfl, rfl⟩
 intro env
 obtain ⟨b_2, g_3, h⟩ := Sh.bind_some h
 refine uM 11 31 (bA b_2) rfl ?_ ?_
 ·
  refine uA 1 rfl trivial ?_
  refine uL 21 rfl (fun hb => ?_) (fun hb => ?_)
  ·
   replace g_3 := Sh.ite_pos hb g_3
   refine uA 3 rfl trivial ?_
   refine uB (v := (AV.rows 6 (List.map cGTok r_1.l))) rfl rfl (Exact.load rfl rfl (hH.cell (i := 0) rfl) rfl rfl) ?_
   obtain ⟨y_2, hy_2, g_3⟩ := Sh.bind_some g_3
   refine uB (v := (.rop (cGTok y_2))) rfl rfl (uR cGTok hy_2 rfl rfl rfl rfl (by kernel_rfl) (by decide)) ?_
   refine uA 1 rfl trivial ?_
   refine uB (v := (sA y_2.text)) rfl rfl (uG rfl rfl rfl) ?_
   refine uA 3 rfl trivial ?_
   refine WpOps.nil ?_
   obtain rfl := Sh.some_inj g_3
   exact ⟨rfl, rfl⟩
  ·
   replace g_3 := Sh.ite_neg hb g_3
   refine uA 10 rfl trivial ?_
   refine WpOps.nil ?_
   obtain rfl := Sh.some_inj g_3
   exact ⟨rfl, rfl⟩
 intro env
 refine uA 1 rfl trivial ?_
 refine WpOps.nil ?_
 obtain rfl := Sh.some_inj h
 refine WpC.ret ?_
 exact uH rfl rfl ⟨rfl, hH⟩
theorem w_macro_reader_takes {H0 H : Heap} {g_1 : Nat} {r_1 : GMacro_reader} {s_1 : List UInt8} (hH : Holds H0 [.cell g_1 244 (cGMacro_reader r_1)] H) {r : (Bool) × GMacro_reader} (h : macro_reader_takes r_1 s_1 = some r) : TCall Tryz.prog 143 [(.lit (.pointer (some ⟨g_1, 0, none⟩))), (sA s_1)] H (fun v H' => v = (bA r.1) ∧ Holds H0 [.cell g_1 244 (cGMacro_reader r.2)] H') noE := by
 refine TCall.body Tryz.func143 rfl rfl ?_
 refine uC ?_
 refine uA 1 rfl trivial ?_
 refine WpOps.nil ?_
 refine WpC.seq ?_
 refine uC ?_
 obtain ⟨r_2, hr_1, h⟩ := Sh.bind_some h
 refine uA 2 rfl trivial ?_
 refine uB (v := (bA r_2)) rfl rfl (Exact.call rfl rfl rfl (w_macro_reader_sign (hH.cell (i := 0) rfl) hr_1)) ?_
 refine uA 1 rfl trivial ?_
 refine WpOps.nil ?_
 refine uF rfl (fun hb => ?_) (fun hb => ?_)
 ·
  replace h := Sh.ite_pos hb h
  refine uC ?_
  refine uA 1 rfl trivial ?_
  refine WpOps.nil ?_
  obtain rfl := Sh.some_inj h
  refine WpC.ret ?_
  exact uH rfl rfl ⟨rfl, hH⟩
 ·
  replace h := Sh.ite_neg hb h
  refine uI ?_
  refine ⟨_, uD _, ?_⟩
  refine uC ?_
  refine uA 4 rfl trivial ?_
  refine uB (v := (AV.rows 6 (List.map cGTok r_1.l))) rfl rfl (Exact.load rfl rfl (hH.cell (i := 0) rfl) rfl rfl) ?_
  obtain ⟨c_1, h⟩ := Sh.chk_some h
  refine uA 1 rfl (show 0 ≤ (1 : Int) ∧ True ∧ True ∧ ((1 : Int)).toNat ≤ (List.map cGTok r_1.l).length ∧ True from ⟨(by omega), trivial, trivial, (by simp only [List.length_map]; omega), trivial⟩) ?_
  refine uN 14 (rows_drop 6 cGTok r_1.l _) ?_
  refine uA 2 rfl trivial ?_
  refine uE rfl rfl (uQ (cs' := (cGMacro_reader (GMacro_reader.mk (r_1.l.drop ((1 : Int)).toNat)))) (v := (AV.rows 6 (List.map cGTok (r_1.l.drop ((1 : Int)).toNat)))) rfl rfl hH (i := 0) rfl rfl rfl rfl rfl rfl rfl fun H' hH => ?_)
  refine WpOps.nil ?_
  refine uC ?_
  refine uA 1 rfl trivial ?_
  refine WpOps.nil ?_
  obtain rfl := Sh.some_inj h
  refine WpC.ret ?_
  exact uH rfl rfl ⟨rfl, hH⟩
theorem w_macro_reader_params {H0 H : Heap} {r_1 : GMacro_reader} {m_1 : GMacro} {g_1 : Nat} {g_2 : Nat} {p_1 : Option (Nat × Nat)} (hH : Holds H0 [.cell g_1 244 (cGMacro_reader r_1), .cell g_2 69 [(sA m_1.name), (bA m_1.func), .own (List.map cS m_1.params).length p_1, (bA m_1.variadic), (AV.rows 6 (List.map cGTok m_1.body))], .own 9 1 p_1 (List.map cS m_1.params)] H) {r : Sum Int ((Unit) × GMacro_reader × GMacro)} (h : macro_reader_params r_1 m_1 = some r) : TCall Tryz.prog 144 [(.lit (.pointer (some ⟨g_1, 0, none⟩))), (.lit (.pointer (some ⟨g_2, 0, none⟩)))] H (fun v H' => ∃ x, r = Sum.inr x ∧ v = (.tup []) ∧ ∃ b : (Option (Nat × Nat)), Holds H0 [.cell g_1 244 (cGMacro_reader x.2.1), .cell g_2 69 [(sA x.2.2.name), (bA x.2.2.func), .own (List.map cS x.2.2.params).length b, (bA x.2.2.variadic), (AV.rows 6 (List.map cGTok x.2.2.body))], .own 9 1 b (List.map cS x.2.2.params)] H') (fun ch H' => ∃ e, r = Sum.inl e ∧ ch = pE e ∧ ∃ H2, Heap.le H2 H' ∧ ∃ y : {l : List AV // l.length = 1} × {l : List AV // l.length = 5}, Holds H0 [.cell g_1 244 y.1.1, .cell g_2 69 y.2.1] H2) := by
  unfold macro_reader_params at h; cases h
theorem w_macro_body_c1 {H0 : Heap} {t_1 : GTok} {r : Bool} (h : macro_body_c1 t_1 = some r) : TCall Tryz.prog 161 [(AV.agg (cGTok t_1))] H0 (fun v H' => v = (bA r) ∧ H' = H0) noE := by
 refine id (TCall.body Tryz.func161 rfl rfl ?_)
 have hH : Holds H0 [] H0 := rfl
 refine uC ?_
 refine uE rfl rfl (vF (v := (AV.agg (cGTok t_1))) rfl rfl hH fun g_1 H' hH => ?_)
 refine uA 1 rfl trivial ?_
 refine WpOps.nil ?_
 refine uC ?_
 refine uA 1 rfl trivial ?_
 refine uB (v := (iA t_1.kind)) rfl rfl (Exact.load rfl rfl (hH.cell (i := 0) rfl) rfl rfl) ?_
 refine uA 1 rfl trivial ?_
 obtain ⟨b_1, g_2, h⟩ := Sh.bind_some h
 refine uM 5 10 (bA b_1) rfl ?_ ?_
 ·
  refine uA 1 rfl trivial ?_
  refine uL 6 rfl (fun hb => ?_) (fun hb => ?_)
  ·
   replace g_2 := Sh.ite_pos hb g_2
   refine uA 1 rfl trivial ?_
   refine uB (v := (sA t_1.text)) rfl rfl (Exact.load rfl rfl (hH.cell (i := 0) rfl) rfl rfl) ?_
   refine uA 2 rfl trivial ?_
   refine WpOps.nil ?_
   obtain rfl := Sh.some_inj g_2
   exact ⟨rfl, rfl⟩
  ·
   replace g_2 := Sh.ite_neg hb g_2
   refine uA 4 rfl trivial ?_
   refine WpOps.nil ?_
   obtain rfl := Sh.some_inj g_2
   exact ⟨rfl, rfl⟩
 intro env
 refine uA 1 rfl trivial ?_
 refine WpOps.nil ?_
 refine uP (i := 0) hH rfl (fun H' hH => ?_)
 obtain rfl := Sh.some_inj h
 refine WpC.ret ?_
 exact uH rfl rfl ⟨rfl, hH⟩
theorem w_slices_IndexFunc_Lapi_Tok_api_Tok__macro_body_c1 {H0 : Heap} {s_1 : List GTok} {r : Int} (h : slices_IndexFunc_Lapi_Tok_api_Tok__macro_body_c1 s_1 = some r) : TCall Tryz.prog 70 [(AV.rows 6 (List.map cGTok s_1)), (.clo (.func 161) [] [])] H0 (fun v H' => v = (iA r) ∧ H' = H0) noE := by
 refine id (TCall.body Tryz.func70 rfl rfl ?_)
 have hH : Holds H0 [] H0 := rfl
 refine uC ?_
 refine uA 1 rfl trivial ?_
 refine WpOps.nil ?_
 refine WpC.seq ?_
 refine uC ?_
 refine uA 2 rfl trivial ?_
 refine uN 7 (len_map _ _) ?_
 refine uA 1 rfl trivial ?_
 refine WpOps.nil ?_
 refine vA (fun x : (Unit) × (Unit) => []) (fun x H' => slices_IndexFunc_Lapi_Tok_api_Tok__macro_body_c1_j1 x.1 = some r ∧ Holds H0 [] H') ?_ ?_
 ·
  obtain ⟨o_1, ho_1, hk_1⟩ := Sh.bind_some h
  refine uX (slices_IndexFunc_Lapi_Tok_api_Tok__macro_body_c1_b2 s_1) (fun (s : Int) (a : Unit) => [(0, (AV.rows 6 (List.map cGTok s_1))), (1, (.clo (.func 161) [] [])), (7, (iA (s_1.length : Int))), (8, (iA s))]) (fun (s : Int) (a : Unit) H' => Holds H0 [] H') o_1 (0 : Int) () ho_1 ⟨rfl, rfl, rfl, rfl, trivial⟩ hH ?_
  rintro t8_1 _ st_1 env H' h hd_1 hH
  refine uC ?_
  refine uA 1 rfl trivial ?_
  refine WpOps.nil ?_
  refine WpC.seq ?_
  refine uF rfl (fun hb => ?_) (fun hb => ?_)
  ·
   replace h := Sh.ite_pos hb h
   refine uI ?_
   refine ⟨_, uD _, ?_⟩
   refine WpC.seq ?_
   refine WpC.block ?_
   refine uC ?_
   refine uA 2 rfl trivial ?_
   refine WpOps.nil ?_
   refine uC ?_
   obtain ⟨y_1, hy_1, h⟩ := Sh.bind_some h
   refine uA 3 rfl trivial ?_
   refine uB (v := (.rop (cGTok y_1))) rfl rfl (uR cGTok hy_1 rfl rfl rfl rfl (by kernel_rfl) (by decide)) ?_
   refine uB (v := (AV.agg (cGTok y_1))) rfl rfl (uG rfl rfl rfl) ?_
   obtain ⟨r_1, hr_1, h⟩ := Sh.bind_some h
   refine uB (v := (bA r_1)) rfl rfl (vN rfl rfl rfl rfl (w_macro_body_c1 hr_1)) ?_
   refine WpOps.nil ?_
   refine uF rfl (fun hb => ?_) (fun hb => ?_)
   ·
    replace h := Sh.ite_pos hb h
    refine uC ?_
    refine uA 2 rfl trivial ?_
    refine WpOps.nil ?_
    obtain rfl := Sh.some_inj h
    have e := hd_1 _ rfl
    subst e
    have h := hk_1
    obtain rfl := Sh.some_inj h
    refine WpC.ret ?_
    exact uH rfl rfl ⟨rfl, hH⟩
   ·
    replace h := Sh.ite_neg hb h
    refine uI ?_
    refine ⟨_, uD _, ?_⟩
    refine uJ ?_
    obtain ⟨c_1, h⟩ := Sh.chk_some h
    refine uA 2 rfl c_1 ?_
    refine WpOps.nil ?_
    obtain rfl := Sh.some_inj h
    exact ⟨_, (uD _), (t8_1 + (1 : Int)), (), rfl, ⟨rfl, rfl, rfl, rfl, trivial⟩, hH⟩
  ·
   replace h := Sh.ite_neg hb h
   obtain rfl := Sh.some_inj h
   have e := hd_1 _ rfl
   subst e
   refine WpC.exit ?_
   exact ⟨((), ()), trivial, hk_1, hH⟩
 ·
  rintro ⟨_, _⟩ env H' ⟨h, hH⟩
  try dsimp only at h
  refine ⟨_, uD _, ?_⟩
  refine uC ?_
  refine uA 1 rfl trivial ?_
  refine WpOps.nil ?_
  obtain rfl := Sh.some_inj h
  refine WpC.ret ?_
  exact uH rfl rfl ⟨rfl, hH⟩
theorem w_slices_ContainsFunc_Lapi_Tok_api_Tok__macro_body_c1 {H0 : Heap} {s_1 : List GTok} {r : Bool} (h : slices_ContainsFunc_Lapi_Tok_api_Tok__macro_body_c1 s_1 = some r) : TCall Tryz.prog 160 [(AV.rows 6 (List.map cGTok s_1)), (.clo (.func 161) [] [])] H0 (fun v H' => v = (bA r) ∧ H' = H0) noE := by
 refine id (TCall.body Tryz.func160 rfl rfl ?_)
 have hH : Holds H0 [] H0 := rfl
 refine uC ?_
 refine uA 1 rfl trivial ?_
 refine WpOps.nil ?_
 refine uC ?_
 obtain ⟨r_1, hr_1, h⟩ := Sh.bind_some h
 refine uA 2 rfl trivial ?_
 refine uB (v := (iA r_1)) rfl rfl (Exact.call rfl rfl rfl (w_slices_IndexFunc_Lapi_Tok_api_Tok__macro_body_c1 hr_1)) ?_
 refine uA 2 rfl trivial ?_
 refine WpOps.nil ?_
 obtain rfl := Sh.some_inj h
 refine WpC.ret ?_
 exact uH rfl rfl ⟨rfl, hH⟩
theorem w_macro_body {H0 : Heap} {m_1 : GMacro} {r : Sum Int (Unit)} (h : macro_body m_1 = some r) : TCall Tryz.prog 145 [(AV.agg (cGMacro m_1))] H0 (fun v H' => ∃ x, r = Sum.inr x ∧ v = (.tup []) ∧ H' = H0) (fun ch H' => ∃ e, r = Sum.inl e ∧ ch = pE e ∧ Heap.le H0 H') := by
 refine id (TCall.body Tryz.func145 rfl rfl ?_)
 have hH : Holds H0 [] H0 := rfl
 refine uC ?_
 refine uE rfl rfl (vF (v := (AV.agg (cGMacro m_1))) rfl rfl hH fun g_1 H' hH => ?_)
 refine WpOps.nil ?_
 refine uC ?_
 refine uA 1 rfl trivial ?_
 refine uB (v := (AV.rows 6 (List.map cGTok m_1.body))) rfl rfl (Exact.load rfl rfl (hH.cell (i := 0) rfl) rfl rfl) ?_
 refine uA 1 rfl trivial ?_
 refine uE rfl rfl (vF (v := (AV.agg (cGMacro_reader (GMacro_reader.mk m_1.body)))) rfl rfl hH fun g_2 H' hH => ?_)
 refine uA 1 rfl trivial ?_
 refine WpOps.nil ?_
 refine uC ?_
 obtain ⟨r_1, hr_1, h⟩ := Sh.bind_some h
 refine uA 1 rfl trivial ?_
 refine uB (v := (bA r_1)) rfl rfl (Exact.call rfl rfl rfl (w_macro_reader_sign (hH.cell (i := 0) rfl) hr_1)) ?_
 obtain ⟨r_2, hr_2, h⟩ := Sh.bind_some h
 refine uA 1 rfl trivial ?_
 refine uE rfl rfl (wE (V := fun (y : Unit) => (.tup [])) rfl rfl rfl (w_macro_need hr_2) (fun y_1 hr => ?_) (fun er H' hr hl => ?_))
 rotate_left
 ·
  subst hr
  replace h := Sh.orP_inl h
  obtain rfl := Sh.some_inj h
  exact VEnds.pan ⟨er, rfl, rfl, uY hH.le hl⟩
 subst hr
 replace h := Sh.orP_inr h
 refine WpOps.nil ?_
 refine vG (fun x : (GMacro_reader) × (Unit) => [(1, (.lit (.pointer (some ⟨g_1, 0, none⟩)))), (2, (.lit (.pointer (some ⟨g_2, 0, none⟩))))]) (fun x H' => (macro_body_j1 m_1) x.1 = some r ∧ Holds H0 [.cell g_2 244 (cGMacro_reader x.1), .cell g_1 69 (cGMacro m_1)] H') ?_ ?_
 ·
  refine uC ?_
  refine uA 1 rfl trivial ?_
  refine uB (v := (AV.rows 6 (List.map cGTok m_1.body))) rfl rfl (Exact.load rfl rfl (hH.cell (i := 1) rfl) rfl rfl) ?_
  refine uA 1 rfl trivial ?_
  refine uN 14 (len_map _ _) ?_
  refine uA 1 rfl trivial ?_
  refine WpOps.nil ?_
  refine uC ?_
  refine uA 2 rfl trivial ?_
  refine WpOps.nil ?_
  refine uF rfl (fun hb => ?_) (fun hb => ?_)
  ·
   replace h := Sh.ite_pos hb h
   refine uC ?_
   refine uA 2 rfl trivial ?_
   refine uB (v := (AV.rows 6 (List.map cGTok m_1.body))) rfl rfl (Exact.load rfl rfl (hH.cell (i := 1) rfl) rfl rfl) ?_
   obtain ⟨c_1, h⟩ := Sh.chk_some h
   obtain ⟨c_2, h⟩ := Sh.chk_some h
   refine uA 2 rfl c_1 ?_
   refine uA 1 rfl (show 0 ≤ ((m_1.body.length : Int) - (1 : Int)) ∧ True ∧ True ∧ (((m_1.body.length : Int) - (1 : Int))).toNat ≤ (List.map cGTok m_1.body).length ∧ True from ⟨(by omega), trivial, trivial, (by simp only [List.length_map]; omega), trivial⟩) ?_
   refine uN 22 (rows_drop 6 cGTok m_1.body _) ?_
   refine uA 2 rfl trivial ?_
   refine uE rfl rfl (uQ (cs' := (cGMacro_reader (GMacro_reader.mk (m_1.body.drop (((m_1.body.length : Int) - (1 : Int))).toNat)))) (v := (AV.rows 6 (List.map cGTok (m_1.body.drop (((m_1.body.length : Int) - (1 : Int))).toNat)))) rfl rfl hH (i := 0) rfl rfl rfl rfl rfl rfl rfl fun H' hH => ?_)
   refine WpOps.nil ?_
   refine uJ ?_
   obtain ⟨r_3, hr_3, h⟩ := Sh.bind_some h
   refine uA 1 rfl trivial ?_
   refine uB (v := (bA r_3)) rfl rfl (Exact.call rfl rfl rfl (w_macro_reader_sign (hH.cell (i := 0) rfl) hr_3)) ?_
   obtain ⟨r_4, hr_4, h⟩ := Sh.bind_some h
   refine uA 1 rfl trivial ?_
   refine uE rfl rfl (wE (V := fun (y : Unit) => (.tup [])) rfl rfl rfl (w_macro_need hr_4) (fun y_2 hr => ?_) (fun er H' hr hl => ?_))
   rotate_left
   ·
    subst hr
    replace h := Sh.orP_inl h
    obtain rfl := Sh.some_inj h
    exact ⟨_, uD _, VEnds.pan ⟨er, rfl, rfl, uY hH.le hl⟩⟩
   subst hr
   replace h := Sh.orP_inr h
   refine WpOps.nil ?_
   exact ⟨_, (uD _), ((GMacro_reader.mk (m_1.body.drop (((m_1.body.length : Int) - (1 : Int))).toNat)), ()), ⟨rfl, rfl, trivial⟩, h, hH⟩
  ·
   replace h := Sh.ite_neg hb h
   refine uI ?_
   exact ⟨_, (uD _), ((GMacro_reader.mk m_1.body), ()), ⟨rfl, rfl, trivial⟩, h, hH⟩
 ·
  rintro ⟨r_5, _⟩ env H' ⟨h, hH⟩
  try dsimp only at h
  refine WpC.seq ?_
  refine uC ?_
  refine uA 2 rfl trivial ?_
  refine uB (v := (AV.rows 6 (List.map cGTok m_1.body))) rfl rfl (Exact.load rfl rfl (hH.cell (i := 1) rfl) rfl rfl) ?_
  refine uA 2 rfl trivial ?_
  refine uE rfl rfl (uQ (cs' := (cGMacro_reader (GMacro_reader.mk m_1.body))) (v := (AV.rows 6 (List.map cGTok m_1.body))) rfl rfl hH (i := 0) rfl rfl rfl rfl rfl rfl rfl fun H' hH => ?_)
  refine WpOps.nil ?_
  refine vA (fun x : (Unit) × (Unit) => [(1, (.lit (.pointer (some ⟨g_1, 0, none⟩))))]) (fun x H' => (macro_body_j2 m_1) x.1 = some r ∧ Holds H0 [.cell g_1 69 (cGMacro m_1)] H') ?_ ?_
  ·
   obtain ⟨o_1, ho_1, hk_1⟩ := Sh.bind_some h
   refine uX (macro_body_b3 m_1) (fun (s : GMacro_reader) (a : Unit) => [(1, (.lit (.pointer (some ⟨g_1, 0, none⟩)))), (2, (.lit (.pointer (some ⟨g_2, 0, none⟩))))]) (fun (s : GMacro_reader) (a : Unit) H' => Holds H0 [.cell g_2 244 (cGMacro_reader s), .cell g_1 69 (cGMacro m_1)] H') o_1 (GMacro_reader.mk m_1.body) () ho_1 ⟨rfl, rfl, trivial⟩ hH ?_
   rintro r_6 _ st_1 env H' h hd_1 hH
   refine WpC.seq ?_
   refine uC ?_
   refine uA 1 rfl trivial ?_
   refine uB (v := (bA m_1.func)) rfl rfl (Exact.load rfl rfl (hH.cell (i := 1) rfl) rfl rfl) ?_
   obtain ⟨b_1, g_3, h⟩ := Sh.bind_some h
   refine uM 8 43 (bA b_1) rfl ?_ ?_
   ·
    refine uA 1 rfl trivial ?_
    refine uL 36 rfl (fun hb => ?_) (fun hb => ?_)
    ·
     replace g_3 := Sh.ite_pos hb g_3
     refine uA 3 rfl trivial ?_
     refine uB (v := (AV.rows 6 (List.map cGTok r_6.l))) rfl rfl (Exact.load rfl rfl (hH.cell (i := 0) rfl) rfl rfl) ?_
     refine uA 1 rfl trivial ?_
     refine uN 41 (len_map _ _) ?_
     refine uA 2 rfl trivial ?_
     refine WpOps.nil ?_
     obtain rfl := Sh.some_inj g_3
     exact ⟨rfl, rfl⟩
    ·
     replace g_3 := Sh.ite_neg hb g_3
     refine uA 7 rfl trivial ?_
     refine WpOps.nil ?_
     obtain rfl := Sh.some_inj g_3
     exact ⟨rfl, rfl⟩
   intro env
   refine WpOps.nil ?_
   refine uF rfl (fun hb => ?_) (fun hb => ?_)
   ·
    replace h := Sh.ite_pos hb h
    refine uI ?_
    refine ⟨_, uD _, ?_⟩
    refine wM (fun x : (Unit) × (Unit) => [(1, (.lit (.pointer (some ⟨g_1, 0, none⟩)))), (2, (.lit (.pointer (some ⟨g_2, 0, none⟩))))]) (fun x H' => (macro_body_j4 r_6) x.1 = some st_1 ∧ Holds H0 [.cell g_2 244 (cGMacro_reader r_6), .cell g_1 69 (cGMacro m_1)] H') ?_ ?_
    ·
     refine uC ?_
     obtain ⟨r_7, hr_5, h⟩ := Sh.bind_some h
     refine uA 1 rfl trivial ?_
     refine uB (v := (bA r_7)) rfl rfl (Exact.call rfl rfl rfl (w_macro_reader_sign (hH.cell (i := 0) rfl) hr_5)) ?_
     refine WpOps.nil ?_
     refine uF rfl (fun hb => ?_) (fun hb => ?_)
     ·
      replace h := Sh.ite_pos hb h
      refine wB [.I, .I, .I, .S, .I, .I, .I, .I, .I, .I, .S, .I, .I, .I, .I, .I, .I, .S, .I, .I, .I, .S, .I, .I, .I, .I, .I, .I, .E] [0, 1, 2, 3, 4, 5, 6, 7, 8, 9, 10, 11, 12, 13, 14, 15, 16, 17, 18, 19, 20, 21, 22, 23, 24, 25, 26, 27, 28] (by kernel_rfl) (by kernel_rfl) ?_
      refine uK 3 rfl trivial ?_
      refine uT (v := (AV.rows 6 (List.map cGTok r_6.l))) rfl rfl rfl rfl (Exact.load rfl rfl (hH.cell (i := 0) rfl) rfl rfl) ?_
      refine uK 1 rfl trivial ?_
      refine WpPi.at 58 (len_map _ _) ?_
      refine uK 1 rfl trivial ?_
      obtain ⟨b_2, g_4, h⟩ := Sh.bind_some h
      refine WpPi.cutB 10 69 (bA b_2) rfl ?_ ?_
      ·
       refine uK 1 rfl trivial ?_
       refine wK 60 rfl (fun hb => ?_) (fun hb => ?_)
       ·
        replace g_4 := Sh.ite_pos hb g_4
        refine uK 3 rfl trivial ?_
        refine uT (v := (AV.rows 6 (List.map cGTok r_6.l))) rfl rfl rfl rfl (Exact.load rfl rfl (hH.cell (i := 0) rfl) rfl rfl) ?_
        obtain ⟨y_3, hy_1, g_4⟩ := Sh.bind_some g_4
        refine uV (v := (.rop (cGTok y_3))) rfl rfl rfl rfl (fun _ => uR cGTok hy_1 rfl rfl rfl rfl (by kernel_rfl) (by decide)) ?_
        refine uK 1 rfl trivial ?_
        refine uV (v := (iA y_3.kind)) rfl rfl rfl rfl (fun _ => uG rfl rfl rfl) ?_
        refine uK 2 rfl trivial ?_
        refine WpPi.nil ?_
        obtain rfl := Sh.some_inj g_4
        exact ⟨rfl, rfl⟩
       ·
        replace g_4 := Sh.ite_neg hb g_4
        refine uK 3 rfl trivial ?_
        refine WpPi.skip rfl rfl rfl ?_
        refine WpPi.skip rfl rfl rfl ?_
        refine uK 1 rfl trivial ?_
        refine WpPi.skip rfl rfl rfl ?_
        refine uK 2 rfl trivial ?_
        refine WpPi.nil ?_
        obtain rfl := Sh.some_inj g_4
        exact ⟨rfl, rfl⟩
      intro env
      obtain ⟨b_3, g_5, h⟩ := Sh.bind_some h
      refine WpPi.cutB 12 81 (bA b_3) rfl ?_ ?_
      ·
       refine uK 1 rfl trivial ?_
       refine wK 70 rfl (fun hb => ?_) (fun hb => ?_)
       ·
        replace g_5 := Sh.ite_pos hb g_5
        refine uT (v := (AV.agg (cGMacro m_1))) rfl rfl rfl rfl (Exact.load rfl rfl (hH.cell (i := 1) rfl) rfl rfl) ?_
        refine uK 3 rfl trivial ?_
        refine uT (v := (AV.rows 6 (List.map cGTok r_6.l))) rfl rfl rfl rfl (Exact.load rfl rfl (hH.cell (i := 0) rfl) rfl rfl) ?_
        obtain ⟨y_4, hy_2, g_5⟩ := Sh.bind_some g_5
        refine uV (v := (.rop (cGTok y_4))) rfl rfl rfl rfl (fun _ => uR cGTok hy_2 rfl rfl rfl rfl (by kernel_rfl) (by decide)) ?_
        refine uK 1 rfl trivial ?_
        refine uV (v := (sA y_4.text)) rfl rfl rfl rfl (fun _ => uG rfl rfl rfl) ?_
        obtain ⟨r_8, hr_6, g_5⟩ := Sh.bind_some g_5
        refine uV (v := (iA r_8)) rfl rfl rfl rfl (fun _ => Exact.call rfl rfl rfl (w_macro_Param hr_6)) ?_
        refine uK 2 rfl trivial ?_
        refine WpPi.nil ?_
        obtain rfl := Sh.some_inj g_5
        exact ⟨rfl, rfl⟩
       ·
        replace g_5 := Sh.ite_neg hb g_5
        refine WpPi.skip rfl rfl rfl ?_
        refine uK 3 rfl trivial ?_
        refine WpPi.skip rfl rfl rfl ?_
        refine WpPi.skip rfl rfl rfl ?_
        refine uK 1 rfl trivial ?_
        refine WpPi.skip rfl rfl rfl ?_
        refine WpPi.skip rfl rfl rfl ?_
        refine uK 2 rfl trivial ?_
        refine WpPi.nil ?_
        obtain rfl := Sh.some_inj g_5
        exact ⟨rfl, rfl⟩
      intro env
      obtain ⟨r_9, hr_7, h⟩ := Sh.bind_some h
      refine WpPi.consP rfl rfl rfl rfl (wE (V := fun (y : Unit) => (.tup [])) rfl rfl rfl (w_macro_need hr_7) (fun y_5 hr => ?_) (fun er H' hr hl => ?_))
      rotate_left
      ·
       subst hr
       replace h := Sh.orP_inl h
       intro env'
       obtain rfl := Sh.some_inj h
       have e := hd_1 _ rfl
       subst e
       have h := hk_1
       obtain rfl := Sh.some_inj h
       exact ⟨_, uD _, VEnds.pan ⟨er, rfl, rfl, uY hH.le hl⟩⟩
      subst hr
      replace h := Sh.orP_inr h
      refine WpPi.nil ?_
      exact ⟨_, (uD _), ((), ()), ⟨rfl, rfl, trivial⟩, h, hH⟩
     ·
      replace h := Sh.ite_neg hb h
      refine uI ?_
      exact ⟨_, (uD _), ((), ()), ⟨rfl, rfl, trivial⟩, h, hH⟩
    ·
     rintro ⟨_, _⟩ env H' ⟨h, hH⟩
     try dsimp only at h
     refine uJ ?_
     refine uA 4 rfl trivial ?_
     refine uB (v := (AV.rows 6 (List.map cGTok r_6.l))) rfl rfl (Exact.load rfl rfl (hH.cell (i := 0) rfl) rfl rfl) ?_
     obtain ⟨c_3, h⟩ := Sh.chk_some h
     refine uA 1 rfl (show 0 ≤ (1 : Int) ∧ True ∧ True ∧ ((1 : Int)).toNat ≤ (List.map cGTok r_6.l).length ∧ True from ⟨(by omega), trivial, trivial, (by simp only [List.length_map]; omega), trivial⟩) ?_
     refine uN 49 (rows_drop 6 cGTok r_6.l _) ?_
     refine uA 2 rfl trivial ?_
     refine uE rfl rfl (uQ (cs' := (cGMacro_reader (GMacro_reader.mk (r_6.l.drop ((1 : Int)).toNat)))) (v := (AV.rows 6 (List.map cGTok (r_6.l.drop ((1 : Int)).toNat)))) rfl rfl hH (i := 0) rfl rfl rfl rfl rfl rfl rfl fun H' hH => ?_)
     refine WpOps.nil ?_
     obtain rfl := Sh.some_inj h
     exact ⟨_, (uD _), (GMacro_reader.mk (r_6.l.drop ((1 : Int)).toNat)), (), rfl, ⟨rfl, rfl, trivial⟩, hH⟩
   ·
    replace h := Sh.ite_neg hb h
    refine uP (i := 0) hH rfl (fun H' hH => ?_)
    obtain rfl := Sh.some_inj h
    have e := hd_1 _ rfl
    subst e
    refine WpC.exit ?_
    exact ⟨((), ()), ⟨rfl, trivial⟩, hk_1, hH⟩
  ·
   rintro ⟨_, _⟩ env H' ⟨h, hH⟩
   try dsimp only at h
   refine ⟨_, uD _, ?_⟩
   refine uJ ?_
   refine uA 1 rfl trivial ?_
   refine uB (v := (bA m_1.variadic)) rfl rfl (Exact.load rfl rfl (hH.cell (i := 0) rfl) rfl rfl) ?_
   obtain ⟨b_4, g_6, h⟩ := Sh.bind_some h
   refine uM 6 90 (bA b_4) rfl ?_ ?_
   ·
    refine uA 1 rfl trivial ?_
    refine uL 85 rfl (fun hb => ?_) (fun hb => ?_)
    ·
     replace g_6 := Sh.ite_pos hb g_6
     refine uA 5 rfl trivial ?_
     refine WpOps.nil ?_
     obtain rfl := Sh.some_inj g_6
     exact ⟨rfl, rfl⟩
    ·
     replace g_6 := Sh.ite_neg hb g_6
     refine uA 1 rfl trivial ?_
     refine uB (v := (AV.rows 6 (List.map cGTok m_1.body))) rfl rfl (Exact.load rfl rfl (hH.cell (i := 0) rfl) rfl rfl) ?_
     obtain ⟨r_10, hr_8, g_6⟩ := Sh.bind_some g_6
     refine uB (v := (bA r_10)) rfl rfl (Exact.call rfl rfl rfl (w_slices_ContainsFunc_Lapi_Tok_api_Tok__macro_body_c1 hr_8)) ?_
     refine uA 2 rfl trivial ?_
     refine WpOps.nil ?_
     obtain rfl := Sh.some_inj g_6
     exact ⟨rfl, rfl⟩
   intro env
   obtain ⟨r_11, hr_9, h⟩ := Sh.bind_some h
   refine uE rfl rfl (wE (V := fun (y : Unit) => (.tup [])) rfl rfl rfl (w_macro_need hr_9) (fun y_6 hr => ?_) (fun er H' hr hl => ?_))
   rotate_left
   ·
    subst hr
    replace h := Sh.orP_inl h
    obtain rfl := Sh.some_inj h
    exact ⟨_, uD _, VEnds.pan ⟨er, rfl, rfl, uY hH.le hl⟩⟩
   subst hr
   replace h := Sh.orP_inr h
   refine WpOps.nil ?_
   obtain ⟨_, hle_1, hH⟩ := hH.lose_ (i := 0) rfl
   refine ⟨_, hle_1, ?_⟩
   obtain rfl := Sh.some_inj h
   exact vW rfl ⟨_, rfl, rfl, hH⟩
theorem d_idle {H : Heap} {gm ge : Nat} : DCall Tryz.prog 139 [.lit (.pointer (some ⟨gm, 0, none⟩)), .lit (.pointer (some ⟨ge, 0, none⟩))] H .returning (fun u H2 => u = .returning ∧ H2 = H) := by
 refine DCall.body Tryz.func139 rfl rfl rfl rfl rfl rfl rfl rfl ?_
 refine WpC.block ?_
 refine uC ?_
 refine uB (v := bA true) rfl rfl (Exact.ifaceNil rfl rfl rfl (.inl ⟨rfl, rfl⟩)) ?_
 refine WpOps.nil ?_
 refine WpC.condT rfl ?_
 refine WpC.region ?_
 refine uA 1 rfl trivial ?_
 exact WpOps.nil ⟨.inl rfl, rfl, rfl⟩
theorem d_pan {H0 H : Heap} {gm ge : Nat} {cs es : List AV} {er : Int} (hc : cs.length = 5) (he : es.length = 1) (hH : Holds H0 [.cell gm 69 cs, .cell ge 29 es] H) : DCall Tryz.prog 139 [.lit (.pointer (some ⟨gm, 0, none⟩)), .lit (.pointer (some ⟨ge, 0, none⟩))] H (.panicking (pE er)) (fun u H2 => settle u = .returning ∧ Holds H0 [.cell gm 69 (cGMacro (GMacro.mk ([] : List UInt8) false ([] : List (List UInt8)) false ([] : List GTok))), .cell ge 29 [iA er]] H2) := by
 match cs, hc with
 | [c1, c2, c3, c4, c5], _ =>
 match es, he with
 | [e1], _ =>
 refine DCall.body Tryz.func139 rfl rfl rfl rfl rfl rfl rfl rfl ?_
 refine WpC.block ?_
 refine uC ?_
 refine uB (v := bA false) rfl rfl (Exact.ifaceNil rfl rfl rfl (.inr ⟨rfl, _, _, rfl⟩)) ?_
 refine WpOps.nil ?_
 refine wI rfl ?_
 refine uC ?_
 refine uB (v := .lit (.tuple #[.agg #[.int .i64 er], .bool true])) rfl rfl (Exact.assertS rfl rfl rfl) ?_
 refine uB (v := bA true) rfl rfl (Exact.extractL rfl rfl rfl) ?_
 refine uB (v := .lit (.agg #[.int .i64 er])) rfl rfl (Exact.extractL rfl rfl rfl) ?_
 refine WpOps.nil ?_
 refine WpC.condT rfl ?_
 refine WpC.sub (t := 10) (u := .agg [iA er]) (Sub.litAgg _) ?_
 refine uC ?_
 refine uE rfl rfl (vC (z := [iA 0]) rfl rfl hH fun gx H' hH => ?_)
 refine uE rfl rfl (uQ (cs' := [iA er]) (v := .agg [iA er]) rfl rfl hH (i := 0) rfl rfl rfl rfl rfl rfl rfl fun H' hH => ?_)
 refine WpOps.nil ?_
 refine WpC.drawDI (fun H => H gx = some (.cells 241 [iA er])) [.I, .I, .I, .E, .E] [0, 1, 2, 3, 4] (by kernel_rfl) (by kernel_rfl) (hH.cell (i := 0) rfl) ?_
 refine uK 2 rfl trivial ?_
 refine vD (v := iA er) rfl rfl rfl rfl (fun _ hi => Exact.load rfl rfl hi rfl rfl) ?_
 refine vE rfl rfl rfl rfl (WpO.putU (cs' := cGMacro (GMacro.mk ([] : List UInt8) false ([] : List (List UInt8)) false ([] : List GTok))) rfl rfl hH (i := 1) rfl rfl rfl rfl rfl rfl rfl (.cons (.refl _) (.cons (.refl _) (.cons (Sub.nil _) (.cons (.refl _) (.cons (Sub.nil _) .nil))))) fun H' hH => ⟨hH.cell (i := 0) rfl, ?_⟩)
 refine vE rfl rfl rfl rfl (uQ (cs' := [iA er]) (v := iA er) rfl rfl hH (i := 2) rfl rfl rfl rfl rfl rfl rfl fun H' hH => ⟨hH.cell (i := 0) rfl, ?_⟩)
 refine WpPi.nil ?_
 obtain ⟨_, hle, hH⟩ := hH.lose_ (i := 0) rfl
 exact ⟨_, hle, .inl rfl, rfl, hH⟩
theorem w_macro_Define {H0 : Heap} {l : List GTok} {rr : GMacro × Int} (h : macro_Define l = some rr) : TCall Tryz.prog 126 [(AV.rows 6 (List.map cGTok l))] H0 (fun v H' => v = (.tup [(AV.agg (cGMacro rr.1)), (iA rr.2)]) ∧ H' = H0) noE := by
  unfold macro_Define at h
  obtain ⟨r, hr0, hr1⟩ := Sh.bind_some h
  clear h; have h := hr0
  refine TCall.up (TCall.bodyD (g := 139) Tryz.func126 rfl rfl rfl rfl rfl rfl rfl rfl rfl rfl rfl ?_)
  have hH : Holds H0 [] H0 := rfl
  refine WpC.region ?_
  refine uE rfl rfl (vK (z' := [(sA ([] : List UInt8)), (bA false), .own 0 none, (bA false), (AV.rows 6 (List.map cGTok ([] : List GTok)))]) rfl rfl (.cons (.refl _) (.cons (.refl _) (.cons (.refl _) (.cons (.refl _) (.cons (Sub.nil _) .nil))))) hH fun gm H' hH => ?_)
  refine uE rfl rfl (vC (z := [iA 0]) rfl rfl hH fun ge H' hH => ?_)
  have hH := hH.back 1
  refine WpOps.nil ⟨rfl, _, _, rfl, rfl, ?_⟩
  have hH := hH.nil 9 1
  refine WpC.mono (Q := DEnds (fun env H' => env 2 = .lit (.pointer (some ⟨gm, 0, none⟩)) ∧ env 3 = .lit (.pointer (some ⟨ge, 0, none⟩)) ∧ ∃ x, r = Sum.inr x ∧ Holds H0 [.cell gm 69 (cGMacro x.2.1), .cell ge 29 [iA x.2.2]] H') (fun ch env H' => env 2 = .lit (.pointer (some ⟨gm, 0, none⟩)) ∧ env 3 = .lit (.pointer (some ⟨ge, 0, none⟩)) ∧ ∃ e, r = Sum.inl e ∧ ch = pE e ∧ ∃ H2, Heap.le H2 H' ∧ ∃ y : {l : List AV // l.length = 5} × {l : List AV // l.length = 1}, Holds H0 [.cell gm 69 y.1.1, .cell ge 29 y.2.1] H2)) ?_ ?_
  rotate_left
  · have rv : ∀ (env : Env) (H2 : Heap) (m : GMacro) (e : Int), env 2 = .lit (.pointer (some ⟨gm, 0, none⟩)) → env 3 = .lit (.pointer (some ⟨ge, 0, none⟩)) → Holds H0 [.cell gm 69 (cGMacro m), .cell ge 29 [iA e]] H2 → ResV Tryz.prog env H2 Tryz.f126.results.toList [(AV.agg (cGMacro m)), iA e] := fun env H2 m e h1 h2 h3 => .cell h1 (h3.cell (i := 0) rfl) rfl rfl (.cell h2 (h3.cell (i := 1) rfl) rfl rfl .nil)
    intro ee env2 H2 q
    cases ee with
    | normal =>
      obtain ⟨q1, q2, x, rfl, hH⟩ := DEnds.un_normal q
      replace hr1 := Sh.orP_inr hr1
      refine d_idle.mono fun u H2 ⟨hu, hE⟩ => ?_
      subst hE
      refine ⟨by rw [hu]; rfl, _, rv env2 _ _ _ q1 q2 hH, ?_⟩
      obtain ⟨_, hle1, hH⟩ := hH.lose_ (i := 0) rfl
      obtain ⟨_, hle2, hH⟩ := hH.lose_ (i := 0) rfl
      exact ⟨_, _, Up.drop (uY hle2 hle1) _, by rw [← Sh.some_inj hr1]; rfl, hH⟩
    | ret =>
      obtain ⟨q1, q2, x, rfl, hH⟩ := DEnds.un_ret q
      replace hr1 := Sh.orP_inr hr1
      refine d_idle.mono fun u H2 ⟨hu, hE⟩ => ?_
      subst hE
      refine ⟨by rw [hu]; rfl, _, rv env2 _ _ _ q1 q2 hH, ?_⟩
      obtain ⟨_, hle1, hH⟩ := hH.lose_ (i := 0) rfl
      obtain ⟨_, hle2, hH⟩ := hH.lose_ (i := 0) rfl
      exact ⟨_, _, Up.drop (uY hle2 hle1) _, by rw [← Sh.some_inj hr1]; rfl, hH⟩
    | panic ch =>
      obtain ⟨q1, q2, er, rfl, rfl, H3, hle, y, hH⟩ := DEnds.un_panic q
      replace hr1 := Sh.orP_inl hr1
      refine DCall.drop hle ?_
      refine (d_pan y.1.2 y.2.2 hH).mono fun u H2 ⟨hu, hH⟩ => ?_
      refine ⟨hu, _, rv env2 _ _ _ q1 q2 hH, ?_⟩
      obtain ⟨_, hle1, hH⟩ := hH.lose_ (i := 0) rfl
      obtain ⟨_, hle2, hH⟩ := hH.lose_ (i := 0) rfl
      exact ⟨_, _, Up.drop (uY hle2 hle1) _, by rw [← Sh.some_inj hr1]; rfl, hH⟩
    | exit id => exact (DEnds.un_exit q).elim
    | goto l => exact (DEnds.un_goto q).elim
    | outgrown => exact (DEnds.un_outgrown q).elim
  refine uC ?_
  refine uA 2 rfl trivial ?_
  refine uE rfl rfl (vF (v := (AV.agg (cGMacro_reader (GMacro_reader.mk l)))) rfl rfl hH fun g_1 H' hH => ?_)
  refine uA 1 rfl trivial ?_
  refine WpOps.nil ?_
  refine uC ?_
  obtain ⟨r_1, hr_1, h⟩ := Sh.bind_some h
  refine uA 1 rfl trivial ?_
  refine uE rfl rfl (WpO.callFP 1 (V := fun (y : (List UInt8) × GMacro_reader) => (sA y.1)) rfl rfl rfl hH (fun H1 hl hh => w_macro_reader_word hh hr_1) (fun y_1 b H' hr hH => ?_) (fun er yy H2 H' hr hl hH => ?_))
  rotate_left
  ·
    subst hr
    replace h := Sh.orP_inl h
    obtain ⟨_, hle_1, hH⟩ := hH.lose_ (i := 0) rfl
    obtain ⟨_, hle_2, hH⟩ := hH.lose_ (i := 0) rfl
    have hH := hH.front (i := 1) rfl
    have hH := hH.front (i := 1) rfl
    obtain rfl := Sh.some_inj h
    exact DEnds.pan ⟨rfl, rfl, er, rfl, rfl, _, (uY hle_2 (uY hle_1 hl)), (⟨_, by first | rfl | exact yy.2 | exact yy.1.2 | exact yy.2.2⟩, ⟨_, by first | rfl | exact yy.2 | exact yy.1.2 | exact yy.2.2⟩), hH⟩
  subst hr
  replace h := Sh.orP_inr h
  have hH : Holds H0 [.cell g_1 244 (cGMacro_reader y_1.2), .own 9 1 none (List.map cS ([] : List (List UInt8))), .cell gm 69 [(sA ([] : List UInt8)), (bA false), .own (List.map cS ([] : List (List UInt8))).length none, (bA false), (AV.rows 6 (List.map cGTok ([] : List GTok)))], .cell ge 29 (cI (0 : Int))] _ := hH
  refine uA 1 rfl trivial ?_
  refine uE rfl rfl (uQ (cs' := [(sA y_1.1), (bA false), .own (List.map cS ([] : List (List UInt8))).length none, (bA false), (AV.rows 6 (List.map cGTok ([] : List GTok)))]) (v := (sA y_1.1)) rfl rfl hH (i := 2) rfl rfl rfl rfl rfl rfl rfl fun H' hH => ?_)
  refine WpOps.nil ?_
  refine uC ?_
  refine uA 1 rfl trivial ?_
  refine uB (v := (sA y_1.1)) rfl rfl (Exact.load rfl rfl (hH.cell (i := 2) rfl) rfl rfl) ?_
  refine uA 1 rfl trivial ?_
  obtain ⟨b_1, g_2, h⟩ := Sh.bind_some h
  refine uM 5 19 (bA b_1) rfl ?_ ?_
  ·
    refine uA 1 rfl trivial ?_
    refine uL 15 rfl (fun hb => ?_) (fun hb => ?_)
    ·
      replace g_2 := Sh.ite_pos hb g_2
      refine uA 1 rfl trivial ?_
      refine uB (v := (sA y_1.1)) rfl rfl (Exact.load rfl rfl (hH.cell (i := 2) rfl) rfl rfl) ?_
      refine uA 2 rfl trivial ?_
      refine WpOps.nil ?_
      obtain rfl := Sh.some_inj g_2
      exact ⟨rfl, rfl⟩
    ·
      replace g_2 := Sh.ite_neg hb g_2
      refine uA 4 rfl trivial ?_
      refine WpOps.nil ?_
      obtain rfl := Sh.some_inj g_2
      exact ⟨rfl, rfl⟩
  intro env
  obtain ⟨r_2, hr_2, h⟩ := Sh.bind_some h
  refine uE rfl rfl (wE (V := fun (y : Unit) => (.tup [])) rfl rfl rfl (w_macro_need hr_2) (fun y_2 hr => ?_) (fun er H' hr hl => ?_))
  rotate_left
  ·
    subst hr
    replace h := Sh.orP_inl h
    obtain ⟨_, hle_3, hH⟩ := hH.lose_ (i := 0) rfl
    obtain ⟨_, hle_4, hH⟩ := hH.lose_ (i := 0) rfl
    have hH := hH.front (i := 1) rfl
    have hH := hH.front (i := 1) rfl
    obtain rfl := Sh.some_inj h
    exact DEnds.pan ⟨rfl, rfl, er, rfl, rfl, _, (uY hle_4 (uY hle_3 hl)), (⟨_, by first | rfl | exact yy.2 | exact yy.1.2 | exact yy.2.2⟩, ⟨_, by first | rfl | exact yy.2 | exact yy.1.2 | exact yy.2.2⟩), hH⟩
  subst hr
  replace h := Sh.orP_inr h
  refine WpOps.nil ?_
  refine vG (fun x : (GMacro_reader × GMacro) × ((Option (Nat × Nat))) => [(2, (.lit (.pointer (some ⟨gm, 0, none⟩)))), (3, (.lit (.pointer (some ⟨ge, 0, none⟩)))), (4, (.lit (.pointer (some ⟨g_1, 0, none⟩))))]) (fun x H' => (macro_Define_in_j1 l) x.1 = some r ∧ Holds H0 [.cell g_1 244 (cGMacro_reader x.1.1), .own 9 1 x.2 (List.map cS x.1.2.params), .cell gm 69 [(sA x.1.2.name), (bA x.1.2.func), .own (List.map cS x.1.2.params).length x.2, (bA x.1.2.variadic), (AV.rows 6 (List.map cGTok x.1.2.body))], .cell ge 29 (cI (0 : Int))] H') ?_ ?_
  ·
    refine uC ?_
    obtain ⟨r_3, hr_3, h⟩ := Sh.bind_some h
    refine uA 1 rfl trivial ?_
    refine uB (v := (bA r_3)) rfl rfl (Exact.call rfl rfl rfl (w_macro_reader_sign (hH.cell (i := 0) rfl) hr_3)) ?_
    obtain ⟨b_2, g_3, h⟩ := Sh.bind_some h
    refine uM 10 32 (bA b_2) rfl ?_ ?_
    ·
      refine uA 1 rfl trivial ?_
      refine uL 23 rfl (fun hb => ?_) (fun hb => ?_)
      ·
        replace g_3 := Sh.ite_pos hb g_3
        refine uA 3 rfl trivial ?_
        refine uB (v := (AV.rows 6 (List.map cGTok y_1.2.l))) rfl rfl (Exact.load rfl rfl (hH.cell (i := 0) rfl) rfl rfl) ?_
        obtain ⟨y_3, hy_1, g_3⟩ := Sh.bind_some g_3
        refine uB (v := (.rop (cGTok y_3))) rfl rfl (uR cGTok hy_1 rfl rfl rfl rfl (by kernel_rfl) (by decide)) ?_
        refine uA 1 rfl trivial ?_
        refine uB (v := (bA y_3.blank)) rfl rfl (uG rfl rfl rfl) ?_
        refine uA 2 rfl trivial ?_
        refine WpOps.nil ?_
        obtain rfl := Sh.some_inj g_3
        exact ⟨rfl, rfl⟩
      ·
        replace g_3 := Sh.ite_neg hb g_3
        refine uA 9 rfl trivial ?_
        refine WpOps.nil ?_
        obtain rfl := Sh.some_inj g_3
        exact ⟨rfl, rfl⟩
    intro env
    refine WpOps.nil ?_
    refine uF rfl (fun hb => ?_) (fun hb => ?_)
    ·
      replace h := Sh.ite_pos hb h
      refine uC ?_
      obtain ⟨r_4, hr_4, h⟩ := Sh.bind_some h
      refine uA 1 rfl trivial ?_
      refine uE rfl rfl (vH (v := (bA r_4.1)) rfl rfl rfl hH (i := 0) rfl (fun H1 hl hh => w_macro_reader_takes hh hr_4) fun H' hH => ?_)
      refine WpOps.nil ?_
      refine uC ?_
      refine uA 1 rfl trivial ?_
      refine uE rfl rfl (uQ (cs' := [(sA y_1.1), (bA true), .own (List.map cS ([] : List (List UInt8))).length none, (bA false), (AV.rows 6 (List.map cGTok ([] : List GTok)))]) (v := (bA true)) rfl rfl hH (i := 2) rfl rfl rfl rfl rfl rfl rfl fun H' hH => ?_)
      refine WpOps.nil ?_
      refine uJ ?_
      obtain ⟨r_5, hr_5, h⟩ := Sh.bind_some h
      refine uA 1 rfl trivial ?_
      have hH := hH.front (i := 1) rfl
      have hH := hH.front (i := 2) rfl
      have hH := hH.front (i := 2) rfl
      refine uE rfl rfl (WpO.callFP 3 (V := fun (y : (Unit) × GMacro_reader × GMacro) => (.tup [])) rfl rfl rfl hH (fun H1 hl hh => w_macro_reader_params hh hr_5) (fun y_4 b H' hr hH => ?_) (fun er yy H2 H' hr hl hH => ?_))
      rotate_left
      ·
        subst hr
        replace h := Sh.orP_inl h
        obtain ⟨_, hle_5, hH⟩ := hH.lose_ (i := 0) rfl
        have hH := hH.front (i := 1) rfl
        have hH := hH.front (i := 1) rfl
        obtain rfl := Sh.some_inj h
        exact ⟨_, uD _, DEnds.pan ⟨rfl, rfl, er, rfl, rfl, _, (uY hle_5 hl), (⟨_, by first | rfl | exact yy.2 | exact yy.1.2 | exact yy.2.2⟩, ⟨_, by first | rfl | exact yy.2 | exact yy.1.2 | exact yy.2.2⟩), hH⟩⟩
      subst hr
      replace h := Sh.orP_inr h
      have hH : Holds H0 [.cell g_1 244 (cGMacro_reader y_4.2.1), .cell gm 69 [(sA y_4.2.2.name), (bA y_4.2.2.func), .own (List.map cS y_4.2.2.params).length b, (bA y_4.2.2.variadic), (AV.rows 6 (List.map cGTok y_4.2.2.body))], .own 9 1 b (List.map cS y_4.2.2.params), .cell ge 29 (cI (0 : Int))] _ := hH
      have hH := hH.back 2
      have hH := hH.back 2
      have hH := hH.back 1
      have hH : Holds H0 [.cell g_1 244 (cGMacro_reader y_4.2.1), .own 9 1 b (List.map cS y_4.2.2.params), .cell gm 69 [(sA y_4.2.2.name), (bA y_4.2.2.func), .own (List.map cS y_4.2.2.params).length b, (bA y_4.2.2.variadic), (AV.rows 6 (List.map cGTok y_4.2.2.body))], .cell ge 29 (cI (0 : Int))] _ := hH
      obtain ⟨p_1, hp⟩ : ∃ q, q = b := ⟨_, rfl⟩
      rw [← hp] at hH
      refine WpOps.nil ?_
      exact ⟨_, (uD _), ((y_4.2.1, y_4.2.2), p_1), ⟨rfl, rfl, rfl, trivial⟩, h, hH⟩
    ·
      replace h := Sh.ite_neg hb h
      refine uJ ?_
      refine uA 3 rfl trivial ?_
      refine uB (v := (AV.rows 6 (List.map cGTok y_1.2.l))) rfl rfl (Exact.load rfl rfl (hH.cell (i := 0) rfl) rfl rfl) ?_
      refine uA 1 rfl trivial ?_
      refine uN 42 (len_map _ _) ?_
      refine uA 1 rfl trivial ?_
      obtain ⟨b_3, g_4, h⟩ := Sh.bind_some h
      refine uM 9 52 (bA b_3) rfl ?_ ?_
      ·
        refine uA 1 rfl trivial ?_
        refine uL 44 rfl (fun hb => ?_) (fun hb => ?_)
        ·
          replace g_4 := Sh.ite_pos hb g_4
          refine uA 8 rfl trivial ?_
          refine WpOps.nil ?_
          obtain rfl := Sh.some_inj g_4
          exact ⟨rfl, rfl⟩
        ·
          replace g_4 := Sh.ite_neg hb g_4
          refine uA 3 rfl trivial ?_
          refine uB (v := (AV.rows 6 (List.map cGTok y_1.2.l))) rfl rfl (Exact.load rfl rfl (hH.cell (i := 0) rfl) rfl rfl) ?_
          obtain ⟨y_5, hy_2, g_4⟩ := Sh.bind_some g_4
          refine uB (v := (.rop (cGTok y_5))) rfl rfl (uR cGTok hy_2 rfl rfl rfl rfl (by kernel_rfl) (by decide)) ?_
          refine uA 1 rfl trivial ?_
          refine uB (v := (bA y_5.blank)) rfl rfl (uG rfl rfl rfl) ?_
          refine uA 1 rfl trivial ?_
          refine WpOps.nil ?_
          obtain rfl := Sh.some_inj g_4
          exact ⟨rfl, rfl⟩
      intro env
      obtain ⟨r_6, hr_6, h⟩ := Sh.bind_some h
      refine uE rfl rfl (wE (V := fun (y : Unit) => (.tup [])) rfl rfl rfl (w_macro_need hr_6) (fun y_6 hr => ?_) (fun er H' hr hl => ?_))
      rotate_left
      ·
        subst hr
        replace h := Sh.orP_inl h
        obtain ⟨_, hle_6, hH⟩ := hH.lose_ (i := 0) rfl
        obtain ⟨_, hle_7, hH⟩ := hH.lose_ (i := 0) rfl
        have hH := hH.front (i := 1) rfl
        have hH := hH.front (i := 1) rfl
        obtain rfl := Sh.some_inj h
        exact ⟨_, uD _, DEnds.pan ⟨rfl, rfl, er, rfl, rfl, _, (uY hle_7 (uY hle_6 hl)), (⟨_, by first | rfl | exact yy.2 | exact yy.1.2 | exact yy.2.2⟩, ⟨_, by first | rfl | exact yy.2 | exact yy.1.2 | exact yy.2.2⟩), hH⟩⟩
      subst hr
      replace h := Sh.orP_inr h
      refine WpOps.nil ?_
      exact ⟨_, (uD _), ((y_1.2, (GMacro.mk y_1.1 false ([] : List (List UInt8)) false ([] : List GTok))), none), ⟨rfl, rfl, rfl, trivial⟩, h, hH⟩
  ·
    rintro ⟨⟨r_7, m_1⟩, p_2⟩ env H' ⟨h, hH⟩
    try dsimp only at h
    refine uC ?_
    refine uA 3 rfl trivial ?_
    refine uB (v := (AV.rows 6 (List.map cGTok r_7.l))) rfl rfl (Exact.load rfl rfl (hH.cell (i := 0) rfl) rfl rfl) ?_
    obtain ⟨c_1, h⟩ := Sh.chk_some h
    refine uE rfl rfl (WpO.callO (t := 50) (size := 6) (es := List.map cGTok r_7.l) rfl rfl rfl hH (w_slices_Clone_Lapi_Tok_api_Tok c_1) fun p_3 H' hH => ?_)
    refine uA 1 rfl trivial ?_
    refine uE rfl rfl (uQ (cs' := [(sA m_1.name), (bA m_1.func), .own (List.map cS m_1.params).length p_2, (bA m_1.variadic), .own (List.map cGTok r_7.l).length p_3]) rfl rfl hH (i := 3) rfl rfl rfl rfl rfl rfl rfl fun H' hH => ?_)
    refine WpOps.nil ?_
    refine uP (i := 1) hH rfl (fun H' hH => ?_)
    refine vG (fun x : (GMacro) × ((Option (Nat × Nat)) × (Option (Nat × Nat))) => [(2, (.lit (.pointer (some ⟨gm, 0, none⟩)))), (3, (.lit (.pointer (some ⟨ge, 0, none⟩))))]) (fun x H' => macro_Define_in_j2 x.1 = some r ∧ Holds H0 [.own 50 6 x.2.2 (List.map cGTok x.1.body), .own 9 1 x.2.1 (List.map cS x.1.params), .cell gm 69 [(sA x.1.name), (bA x.1.func), .own (List.map cS x.1.params).length x.2.1, (bA x.1.variadic), .own (List.map cGTok x.1.body).length x.2.2], .cell ge 29 (cI (0 : Int))] H') ?_ ?_
    ·
      refine uC ?_
      refine uA 1 rfl trivial ?_
      refine uB (v := (.own (List.map cGTok r_7.l).length p_3)) rfl rfl (Exact.load rfl rfl (hH.cell (i := 2) rfl) rfl rfl) ?_
      refine uA 1 rfl trivial ?_
      refine uN 62 (len_map _ _) ?_
      refine uA 1 rfl trivial ?_
      refine WpOps.nil ?_
      refine uF rfl (fun hb => ?_) (fun hb => ?_)
      ·
        replace h := Sh.ite_pos hb h
        refine uJ ?_
        refine uA 1 rfl trivial ?_
        refine uB (v := (.own (List.map cGTok r_7.l).length p_3)) rfl rfl (Exact.load rfl rfl (hH.cell (i := 2) rfl) rfl rfl) ?_
        obtain ⟨y_7, hy_3, h⟩ := Sh.bind_some h
        have hq_1 := h; have hq_2 := hH
        obtain ⟨g_5, cp_1, rfl⟩ := hq_2.grown (i := 0) rfl (ne_of_ix hy_3)
        have h := hq_1; have hH := hq_2
        refine uB rfl rfl (vP (size := 6) cGTok hy_3 rfl rfl rfl rfl (by kernel_rfl) (by decide)) ?_
        refine uA 1 rfl trivial ?_
        refine uE rfl rfl (wA (off := 5) (i := 0) cGTok (y' := (GTok.mk y_7.kind y_7.text y_7.file_ y_7.from_ y_7.to false)) (v := (bA false)) hy_3 hH rfl rfl rfl rfl rfl rfl rfl rfl rfl fun H' hH => ?_)
        have hH := hH.recell (i := 2) (cs' := [(sA m_1.name), (bA m_1.func), .own (List.map cS m_1.params).length p_2, (bA m_1.variadic), .own (List.map cGTok (r_7.l.set ((0 : Int)).toNat (GTok.mk y_7.kind y_7.text y_7.file_ y_7.from_ y_7.to false))).length (some (g_5, cp_1))]) rfl (by simp only [List.length_map, List.length_set])
        have hH : Holds H0 [.own 50 6 (some (g_5, cp_1)) (List.map cGTok (r_7.l.set ((0 : Int)).toNat (GTok.mk y_7.kind y_7.text y_7.file_ y_7.from_ y_7.to false))), .own 9 1 p_2 (List.map cS m_1.params), .cell gm 69 [(sA m_1.name), (bA m_1.func), .own (List.map cS m_1.params).length p_2, (bA m_1.variadic), .own (List.map cGTok (r_7.l.set ((0 : Int)).toNat (GTok.mk y_7.kind y_7.text y_7.file_ y_7.from_ y_7.to false))).length (some (g_5, cp_1))], .cell ge 29 (cI (0 : Int))] _ := hH
        refine uN 61 (own_set cGTok r_7.l ((0 : Int)).toNat (GTok.mk y_7.kind y_7.text y_7.file_ y_7.from_ y_7.to false) _) ?_
        refine uN 65 (own_set cGTok r_7.l ((0 : Int)).toNat (GTok.mk y_7.kind y_7.text y_7.file_ y_7.from_ y_7.to false) _) ?_
        refine WpOps.nil ?_
        exact ⟨_, (uD _), ((GMacro.mk m_1.name m_1.func m_1.params m_1.variadic (r_7.l.set ((0 : Int)).toNat (GTok.mk y_7.kind y_7.text y_7.file_ y_7.from_ y_7.to false))), (p_2, (some (g_5, cp_1)))), ⟨rfl, rfl, trivial⟩, h, hH⟩
      ·
        replace h := Sh.ite_neg hb h
        refine uI ?_
        exact ⟨_, (uD _), ((GMacro.mk m_1.name m_1.func m_1.params m_1.variadic r_7.l), (p_2, p_3)), ⟨rfl, rfl, trivial⟩, h, hH⟩
    ·
      rintro ⟨m_2, ⟨p_4, p_5⟩⟩ env H' ⟨h, hH⟩
      try dsimp only at h
      refine WpC.freezeC (i := 1) (j := 1) (k := 2) hH rfl rfl rfl (fun H' hH => ?_)
      have hH : Holds H0 [.own 50 6 p_5 (List.map cGTok m_2.body), .cell gm 69 [(sA m_2.name), (bA m_2.func), (AV.rows 1 (List.map cS m_2.params)), (bA m_2.variadic), .own (List.map cGTok m_2.body).length p_5], .cell ge 29 (cI (0 : Int))] _ := hH
      refine WpC.freezeC (i := 0) (j := 0) (k := 4) hH rfl rfl rfl (fun H' hH => ?_)
      have hH : Holds H0 [.cell gm 69 (cGMacro m_2), .cell ge 29 (cI (0 : Int))] _ := hH
      refine uC ?_
      refine uB (v := (AV.agg (cGMacro m_2))) rfl rfl (Exact.load rfl rfl (hH.cell (i := 0) rfl) rfl rfl) ?_
      obtain ⟨r_8, hr_7, h⟩ := Sh.bind_some h
      refine uE rfl rfl (wE (V := fun (y : Unit) => (.tup [])) rfl rfl rfl (w_macro_body hr_7) (fun y_8 hr => ?_) (fun er H' hr hl => ?_))
      rotate_left
      ·
        subst hr
        replace h := Sh.orP_inl h
        have hH := hH.front (i := 1) rfl
        have hH := hH.front (i := 1) rfl
        obtain rfl := Sh.some_inj h
        exact DEnds.pan ⟨rfl, rfl, er, rfl, rfl, _, hl, (⟨_, by first | rfl | exact yy.2 | exact yy.1.2 | exact yy.2.2⟩, ⟨_, by first | rfl | exact yy.2 | exact yy.1.2 | exact yy.2.2⟩), hH⟩
      subst hr
      replace h := Sh.orP_inr h
      refine WpOps.nil ?_
      refine uC ?_
      refine uB (v := (AV.agg (cGMacro m_2))) rfl rfl (Exact.load rfl rfl (hH.cell (i := 0) rfl) rfl rfl) ?_
      refine uE rfl rfl (uQ (cs' := (cGMacro m_2)) (v := (AV.agg (cGMacro m_2))) rfl rfl hH (i := 0) rfl rfl rfl rfl rfl rfl rfl fun H' hH => ?_)
      refine uE rfl rfl (uQ (cs' := (cI (0 : Int))) (v := (iA (0 : Int))) rfl rfl hH (i := 1) rfl rfl rfl rfl rfl rfl rfl fun H' hH => ?_)
      refine WpOps.nil ?_
      obtain rfl := Sh.some_inj h
      refine WpC.ret ?_
      exact DEnds.ret_ ⟨rfl, rfl, _, rfl, hH⟩
theorem w_macro_Same {H0 : Heap} {a_1 : GMacro} {b_1 : GMacro} {r : Bool} (h : macro_Same a_1 b_1 = some r) : TCall Tryz.prog 127 [(AV.agg (cGMacro a_1)), (AV.agg (cGMacro b_1))] H0 (fun v H' => v = (bA r) ∧ H' = H0) noE := by
  unfold macro_Same at h; cases h
theorem w_unit_file_define {H0 H : Heap} {g_1 : Nat} {gm_1 : Nat} {p_1 : Option (Nat × Nat)} {f_1 : GUnit_file} {run_1 : GUnit_run} {l_1 : List GTok} {r : (Int) × GUnit_run} (h : unit_file_define f_1 run_1 l_1 = some r) (hH : Holds H0 [.cell g_1 67 [(AV.rows 2 (List.map cGFile run_1.files)), .lit (.map (some gm_1)), .own (List.map cGTok run_1.told).length p_1, (iA run_1.includes)], .own 50 6 p_1 (List.map cGTok run_1.told), .many (mapP gm_1 run_1.macros)] H) : TCall Tryz.prog 113 [(.rop (cGUnit_file g_1 f_1)), (AV.rows 6 (List.map cGTok l_1))] H (fun v H' => ∃ b : (Option (Nat × Nat)), v = ((iA r.1)) ∧ Holds H0 [.cell g_1 67 [(AV.rows 2 (List.map cGFile r.2.files)), .lit (.map (some gm_1)), .own (List.map cGTok r.2.told).length b, (iA r.2.includes)], .own 50 6 b (List.map cGTok r.2.told), .many (mapP gm_1 r.2.macros)] H') noE := by
 refine id (TCall.body Tryz.func113 rfl rfl ?_)
 refine uC ?_
 refine uA 1 rfl trivial ?_
 refine WpOps.nil ?_
 refine uC ?_
 obtain ⟨r_1, hr_1, h⟩ := Sh.bind_some h
 refine uA 1 rfl trivial ?_
 refine uB (v := (.tup [(AV.agg (cGMacro r_1.1)), (iA r_1.2)])) rfl rfl (Exact.call rfl rfl rfl (w_macro_Define hr_1)) ?_
 refine uA 3 rfl trivial ?_
 refine uE rfl rfl (vK (z' := cGMacro (GMacro.mk ([] : List UInt8) false ([] : List (List UInt8)) false ([] : List GTok))) rfl rfl (.cons (.refl _) (.cons (.refl _) (.cons (Sub.nil _) (.cons (.refl _) (.cons (Sub.nil _) .nil))))) hH fun g_2 H' hH => ?_)
 refine uE rfl rfl (uQ (cs' := (cGMacro r_1.1)) (v := (AV.agg (cGMacro r_1.1))) rfl rfl hH (i := 0) rfl rfl rfl rfl rfl rfl rfl fun H' hH => ?_)
 refine uA 1 rfl trivial ?_
 refine WpOps.nil ?_
 refine WpC.seq ?_
 refine uC ?_
 refine uA 2 rfl trivial ?_
 refine WpOps.nil ?_
 refine uF rfl (fun hb => ?_) (fun hb => ?_)
 ·
  replace h := Sh.ite_pos hb h
  refine uC ?_
  refine uA 2 rfl trivial ?_
  refine WpOps.nil ?_
  refine uP (i := 0) hH rfl (fun H' hH => ?_)
  have hH : Holds H0 [.cell g_1 67 [(AV.rows 2 (List.map cGFile run_1.files)), .lit (.map (some gm_1)), .own (List.map cGTok run_1.told).length p_1, (iA run_1.includes)], .own 50 6 p_1 (List.map cGTok run_1.told), .many (mapP gm_1 run_1.macros)] _ := hH
  obtain rfl := Sh.some_inj h
  refine WpC.ret ?_
  exact uH rfl rfl ⟨p_1, rfl, hH⟩
 ·
  replace h := Sh.ite_neg hb h
  refine uI ?_
  refine ⟨_, uD _, ?_⟩
  refine WpC.seq ?_
  refine wJ (fun H => H g_2 = some (.cells 69 (cGMacro r_1.1)) ∧ H g_1 = some (.cells 67 [(AV.rows 2 (List.map cGFile run_1.files)), .lit (.map (some gm_1)), .own (List.map cGTok run_1.told).length p_1, (iA run_1.includes)]) ∧ RowAt H 50 6 p_1 (List.map cGTok run_1.told) ∧ H gm_1 = some (.map (kvM run_1.macros)) ∧ True) [.I, .I, .I, .I, .I, .I, .I, .I, .I, .I, .I, .I, .I, .E, .E] [0, 1, 2, 3, 4, 5, 6, 7, 8, 9, 10, 11, 12, 13, 14, 15] (by kernel_rfl) (by kernel_rfl) ⟨hH.cell (i := 0) rfl, hH.cell (i := 1) rfl, hH.rowAt (i := 2) rfl, hH.mapAt (i := 3) rfl, trivial⟩ ?_
  refine uK 3 rfl trivial ?_
  refine uV (v := (.lit (.pointer (some ⟨g_1, 0, none⟩)))) rfl rfl rfl rfl (fun _ => uG rfl rfl rfl) ?_
  refine uK 2 rfl trivial ?_
  refine vD (v := (.lit (.map (some gm_1)))) rfl rfl rfl rfl (fun _ hi => Exact.load rfl rfl hi.2.1 rfl rfl) ?_
  refine uK 1 rfl trivial ?_
  refine vD (v := (sA r_1.1.name)) rfl rfl rfl rfl (fun _ hi => Exact.load rfl rfl hi.1 rfl rfl) ?_
  refine vD (v := (.tup [(AV.agg (cGMacro ((getM r_1.1.name run_1.macros).getD (GMacro.mk ([] : List UInt8) false ([] : List (List UInt8)) false ([] : List GTok))))), (bA (getM r_1.1.name run_1.macros).isSome)])) rfl rfl rfl rfl (fun _ hi => Exact.lookM rfl (by kernel_rfl) rfl hi.2.2.2.1 rfl) ?_
  refine uK 3 rfl trivial ?_
  refine vE rfl rfl rfl rfl (vK (z' := cGMacro (GMacro.mk ([] : List UInt8) false ([] : List (List UInt8)) false ([] : List GTok))) rfl rfl (.cons (.refl _) (.cons (.refl _) (.cons (Sub.nil _) (.cons (.refl _) (.cons (Sub.nil _) .nil))))) hH fun g_3 H' hH => ⟨⟨hH.cell (i := 1) rfl, hH.cell (i := 2) rfl, hH.rowAt (i := 3) rfl, hH.mapAt (i := 4) rfl, trivial⟩, ?_⟩)
  refine vE rfl rfl rfl rfl (uQ (cs' := (cGMacro ((getM r_1.1.name run_1.macros).getD (GMacro.mk ([] : List UInt8) false ([] : List (List UInt8)) false ([] : List GTok))))) (v := (AV.agg (cGMacro ((getM r_1.1.name run_1.macros).getD (GMacro.mk ([] : List UInt8) false ([] : List (List UInt8)) false ([] : List GTok)))))) rfl rfl hH (i := 0) rfl rfl rfl rfl rfl rfl rfl fun H' hH => ⟨⟨hH.cell (i := 1) rfl, hH.cell (i := 2) rfl, hH.rowAt (i := 3) rfl, hH.mapAt (i := 4) rfl, trivial⟩, ?_⟩)
  refine uK 1 rfl trivial ?_
  refine WpPi.nil ?_
  refine uC ?_
  refine uA 1 rfl trivial ?_
  refine WpOps.nil ?_
  refine uF rfl (fun hb => ?_) (fun hb => ?_)
  ·
   replace h := Sh.ite_pos hb h
   refine WpC.seq ?_
   refine uC ?_
   refine uB (v := (AV.agg (cGMacro ((getM r_1.1.name run_1.macros).getD (GMacro.mk ([] : List UInt8) false ([] : List (List UInt8)) false ([] : List GTok)))))) rfl rfl (Exact.load rfl rfl (hH.cell (i := 0) rfl) rfl rfl) ?_
   refine uB (v := (AV.agg (cGMacro r_1.1))) rfl rfl (Exact.load rfl rfl (hH.cell (i := 1) rfl) rfl rfl) ?_
   obtain ⟨r_2, hr_2, h⟩ := Sh.bind_some h
   refine uB (v := (bA r_2)) rfl rfl (Exact.call rfl rfl rfl (w_macro_Same hr_2)) ?_
   refine uA 1 rfl trivial ?_
   refine WpOps.nil ?_
   refine uF rfl (fun hb => ?_) (fun hb => ?_)
   ·
    replace h := Sh.ite_pos hb h
    refine uC ?_
    refine uA 1 rfl trivial ?_
    refine WpOps.nil ?_
    refine uP (i := 0) hH rfl (fun H' hH => ?_)
    refine uP (i := 0) hH rfl (fun H' hH => ?_)
    have hH : Holds H0 [.cell g_1 67 [(AV.rows 2 (List.map cGFile run_1.files)), .lit (.map (some gm_1)), .own (List.map cGTok run_1.told).length p_1, (iA run_1.includes)], .own 50 6 p_1 (List.map cGTok run_1.told), .many (mapP gm_1 run_1.macros)] _ := hH
    obtain rfl := Sh.some_inj h
    refine WpC.ret ?_
    exact uH rfl rfl ⟨p_1, rfl, hH⟩
   ·
    replace h := Sh.ite_neg hb h
    refine uI ?_
    refine ⟨_, uD _, ?_⟩
    refine uC ?_
    refine uA 1 rfl trivial ?_
    refine WpOps.nil ?_
    refine uP (i := 0) hH rfl (fun H' hH => ?_)
    refine uP (i := 0) hH rfl (fun H' hH => ?_)
    have hH : Holds H0 [.cell g_1 67 [(AV.rows 2 (List.map cGFile run_1.files)), .lit (.map (some gm_1)), .own (List.map cGTok run_1.told).length p_1, (iA run_1.includes)], .own 50 6 p_1 (List.map cGTok run_1.told), .many (mapP gm_1 run_1.macros)] _ := hH
    obtain rfl := Sh.some_inj h
    refine WpC.ret ?_
    exact uH rfl rfl ⟨p_1, rfl, hH⟩
  ·
   replace h := Sh.ite_neg hb h
   refine uI ?_
   refine ⟨_, uD _, ?_⟩
   refine vO [.I, .I, .I, .I, .I, .I, .S, .I, .S, .S, .E] [0, 1, 2, 3, 4, 5, 6, 7, 8, 9, 10] (by kernel_rfl) (by kernel_rfl) ?_
   refine uK 3 rfl trivial ?_
   refine uV (v := (.lit (.pointer (some ⟨g_1, 0, none⟩)))) rfl rfl rfl rfl (fun _ => uG rfl rfl rfl) ?_
   refine uK 2 rfl trivial ?_
   refine uT (v := (.lit (.map (some gm_1)))) rfl rfl rfl rfl (Exact.load rfl rfl (hH.cell (i := 2) rfl) rfl rfl) ?_
   refine uK 1 rfl trivial ?_
   refine uT (v := (sA r_1.1.name)) rfl rfl rfl rfl (Exact.load rfl rfl (hH.cell (i := 1) rfl) rfl rfl) ?_
   refine uT (v := (AV.agg (cGMacro r_1.1))) rfl rfl rfl rfl (Exact.load rfl rfl (hH.cell (i := 1) rfl) rfl rfl) ?_
   refine vM rfl rfl rfl rfl (WpO.updM rfl (by kernel_rfl) rfl hH (i := 4) rfl rfl rfl fun H' hH => ?_)
   have hH : Holds H0 [.cell g_3 69 (cGMacro ((getM r_1.1.name run_1.macros).getD (GMacro.mk ([] : List UInt8) false ([] : List (List UInt8)) false ([] : List GTok)))), .cell g_2 69 (cGMacro r_1.1), .cell g_1 67 [(AV.rows 2 (List.map cGFile run_1.files)), .lit (.map (some gm_1)), .own (List.map cGTok run_1.told).length p_1, (iA run_1.includes)], .own 50 6 p_1 (List.map cGTok run_1.told), .many (mapP gm_1 (putM r_1.1.name r_1.1 run_1.macros))] _ := hH
   refine WpPi.nil ?_
   refine uC ?_
   refine uA 1 rfl trivial ?_
   refine WpOps.nil ?_
   refine uP (i := 0) hH rfl (fun H' hH => ?_)
   refine uP (i := 0) hH rfl (fun H' hH => ?_)
   have hH : Holds H0 [.cell g_1 67 [(AV.rows 2 (List.map cGFile run_1.files)), .lit (.map (some gm_1)), .own (List.map cGTok run_1.told).length p_1, (iA run_1.includes)], .own 50 6 p_1 (List.map cGTok run_1.told), .many (mapP gm_1 (putM r_1.1.name r_1.1 run_1.macros))] _ := hH
   obtain rfl := Sh.some_inj h
   refine WpC.ret ?_
   exact uH rfl rfl ⟨p_1, rfl, hH⟩
theorem w_unit_file_text {H0 H : Heap} (hG : Glob H0) {g_1 : Nat} {gm_1 : Nat} {p_1 : Option (Nat × Nat)} {f_1 : GUnit_file} {run_1 : GUnit_run} {l_1 : List GItem} {r : (Option GFault) × GUnit_run} (h : unit_file_text f_1 run_1 l_1 = some r) (hH : Holds H0 [.cell g_1 67 [(AV.rows 2 (List.map cGFile run_1.files)), .lit (.map (some gm_1)), .own (List.map cGTok run_1.told).length p_1, (iA run_1.includes)], .own 50 6 p_1 (List.map cGTok run_1.told), .many (mapP gm_1 run_1.macros)] H) : TCall Tryz.prog 97 [(.rop (cGUnit_file g_1 f_1)), (AV.rows 3 (List.map cGItem l_1))] H (fun v H' => ∃ b : (Option (Nat × Nat)), v = ((errA r.1)) ∧ Holds H0 [.cell g_1 67 [(AV.rows 2 (List.map cGFile r.2.files)), .lit (.map (some gm_1)), .own (List.map cGTok r.2.told).length b, (iA r.2.includes)], .own 50 6 b (List.map cGTok r.2.told), .many (mapP gm_1 r.2.macros)] H') noE := by
  refine id (TCall.body Tryz.func97 rfl rfl ?_)
  refine uC ?_
  refine uB (v := (errA (none : Option GFault))) rfl rfl (uZ rfl rfl) ?_
  refine WpOps.nil ?_
  refine uC ?_
  refine uA 1 rfl trivial ?_
  have hH := hH.nil 50 6
  refine WpOps.nil ?_
  refine WpC.seq ?_
  refine uC ?_
  refine uA 2 rfl trivial ?_
  refine uN 13 (len_map _ _) ?_
  refine uA 1 rfl trivial ?_
  refine WpOps.nil ?_
  refine vA (fun x : (List GTok) × ((Option (Nat × Nat))) => [(0, (.rop (cGUnit_file g_1 f_1))), (1, (AV.rows 3 (List.map cGItem l_1))), (5, (.own (List.map cGTok x.1).length x.2))]) (fun x H' => (unit_file_text_j1 f_1 run_1 l_1) x.1 = some r ∧ Holds H0 [.own 50 6 x.2 (List.map cGTok x.1), .cell g_1 67 [(AV.rows 2 (List.map cGFile run_1.files)), .lit (.map (some gm_1)), .own (List.map cGTok run_1.told).length p_1, (iA run_1.includes)], .own 50 6 p_1 (List.map cGTok run_1.told), .many (mapP gm_1 run_1.macros)] H') ?_ ?_
  ·
    obtain ⟨o_1, ho_1, hk_1⟩ := Sh.bind_some h
    refine uX (unit_file_text_b2 f_1 l_1) (fun (s : Int × List GTok) (a : (Option (Nat × Nat))) => [(0, (.rop (cGUnit_file g_1 f_1))), (1, (AV.rows 3 (List.map cGItem l_1))), (5, (.own (List.map cGTok s.2).length a)), (12, (AV.rows 3 (List.map cGItem l_1))), (13, (iA (l_1.length : Int))), (14, (iA s.1))]) (fun (s : Int × List GTok) (a : (Option (Nat × Nat))) H' => Holds H0 [.own 50 6 a (List.map cGTok s.2), .cell g_1 67 [(AV.rows 2 (List.map cGFile run_1.files)), .lit (.map (some gm_1)), .own (List.map cGTok run_1.told).length p_1, (iA run_1.includes)], .own 50 6 p_1 (List.map cGTok run_1.told), .many (mapP gm_1 run_1.macros)] H') o_1 ((0 : Int), ([] : List GTok)) none ho_1 ⟨rfl, rfl, rfl, rfl, rfl, rfl, trivial⟩ hH ?_
    rintro ⟨t14_1, toks_1⟩ p_2 st_1 env H' h hd_1 hH
    refine uC ?_
    refine uA 1 rfl trivial ?_
    refine WpOps.nil ?_
    refine WpC.seq ?_
    refine uF rfl (fun hb => ?_) (fun hb => ?_)
    ·
      replace h := Sh.ite_pos hb h
      refine uI ?_
      refine ⟨_, uD _, ?_⟩
      refine WpC.seq ?_
      refine WpC.block ?_
      refine uC ?_
      obtain ⟨y_1, hy_1, h⟩ := Sh.bind_some h
      refine uA 1 rfl trivial ?_
      refine uB (v := (.rop (cGItem y_1))) rfl rfl (uR cGItem hy_1 rfl rfl rfl rfl (by kernel_rfl) (by decide)) ?_
      refine uB (v := (AV.agg (cGItem y_1))) rfl rfl (uG rfl rfl rfl) ?_
      refine uE rfl rfl (vK (z' := cGItem (GItem.mk (0 : Int) (0 : Int) ([] : List GBranch))) rfl rfl (.cons (.refl _) (.cons (.refl _) (.cons (Sub.nil _) .nil))) hH fun g_2 H' hH => ?_)
      refine uA 1 rfl trivial ?_
      refine uE rfl rfl (uQ (cs' := (cGItem y_1)) (v := (AV.agg (cGItem y_1))) rfl rfl hH (i := 0) rfl rfl rfl rfl rfl rfl rfl fun H' hH => ?_)
      refine WpOps.nil ?_
      refine vG (fun x : (List GTok) × ((Option (Nat × Nat))) => [(0, (.rop (cGUnit_file g_1 f_1))), (1, (AV.rows 3 (List.map cGItem l_1))), (5, (.own (List.map cGTok x.1).length x.2)), (7, (.lit (.pointer (some ⟨g_2, 0, none⟩)))), (12, (AV.rows 3 (List.map cGItem l_1))), (13, (iA (l_1.length : Int))), (14, (iA t14_1))]) (fun x H' => (unit_file_text_j3 f_1 t14_1 y_1) x.1 = some st_1 ∧ Holds H0 [.cell g_2 186 (cGItem y_1), .own 50 6 x.2 (List.map cGTok x.1), .cell g_1 67 [(AV.rows 2 (List.map cGFile run_1.files)), .lit (.map (some gm_1)), .own (List.map cGTok run_1.told).length p_1, (iA run_1.includes)], .own 50 6 p_1 (List.map cGTok run_1.told), .many (mapP gm_1 run_1.macros)] H') ?_ ?_
      ·
        refine uC ?_
        refine uA 2 rfl trivial ?_
        refine WpOps.nil ?_
        refine uF rfl (fun hb => ?_) (fun hb => ?_)
        ·
          replace h := Sh.ite_pos hb h
          refine uJ ?_
          refine uA 2 rfl trivial ?_
          refine uB (v := (AV.rows 6 (List.map cGTok ([(GTok.mk (7 : Int) ([10] : List UInt8) (0 : Int) (0 : Int) (0 : Int) false)] : List GTok)))) rfl rfl (uW rfl (by kernel_rfl)) ?_
          obtain ⟨c_1, h⟩ := Sh.chk_some h
          refine uE rfl rfl (vL cGTok toks_1 ([(GTok.mk (7 : Int) ([10] : List UInt8) (0 : Int) (0 : Int) (0 : Int) false)] : List GTok) (i := 1) rfl ek37 hH rfl rfl rfl (.rows _) (fun y _ => one_cGTok y) (by simp) c_1 (by decide) fun p_3 H' hH => ?_)
          refine uA 1 rfl trivial ?_
          refine WpOps.nil ?_
          exact ⟨_, (uD _), ((toks_1 ++ ([(GTok.mk (7 : Int) ([10] : List UInt8) (0 : Int) (0 : Int) (0 : Int) false)] : List GTok)), p_3), ⟨rfl, rfl, rfl, rfl, rfl, rfl, rfl, trivial⟩, h, hH⟩
        ·
          replace h := Sh.ite_neg hb h
          refine uI ?_
          exact ⟨_, (uD _), (toks_1, p_2), ⟨rfl, rfl, rfl, rfl, rfl, rfl, rfl, trivial⟩, h, hH⟩
      ·
        rintro ⟨l_2, p_4⟩ env H' ⟨h, hH⟩
        try dsimp only at h
        refine wB [.I, .I, .I, .I, .I, .I, .S, .I, .I, .I, .E] [0, 1, 2, 3, 4, 5, 6, 7, 8, 9, 10, 11] (by kernel_rfl) (by kernel_rfl) ?_
        refine uK 4 rfl trivial ?_
        refine uV (v := (AV.rows 4 (List.map cGLine f_1.lines))) rfl rfl rfl rfl (fun _ => uG rfl rfl rfl) ?_
        refine uK 1 rfl trivial ?_
        refine uT (v := (iA y_1.line_)) rfl rfl rfl rfl (Exact.load rfl rfl (hH.cell (i := 0) rfl) rfl rfl) ?_
        obtain ⟨y_2, hy_2, h⟩ := Sh.bind_some h
        refine uV (v := (.rop (cGLine y_2))) rfl rfl rfl rfl (fun _ => uR cGLine hy_2 rfl rfl rfl rfl (by kernel_rfl) (by decide)) ?_
        refine uK 1 rfl trivial ?_
        refine uV (v := (AV.rows 6 (List.map cGTok y_2.toks))) rfl rfl rfl rfl (fun _ => uG rfl rfl rfl) ?_
        obtain ⟨c_2, h⟩ := Sh.chk_some h
        refine vM rfl rfl rfl rfl (WpO.pushA cGTok l_2 y_2.toks (i := 1) rfl ek37 hH rfl rfl rfl (.rows _) (fun y _ => one_cGTok y) c_2 (by decide) fun p_5 H' hH => ?_)
        refine uK 1 rfl trivial ?_
        refine WpPi.nil ?_
        refine ⟨_, uD _, ?_⟩
        refine uJ ?_
        obtain ⟨c_3, h⟩ := Sh.chk_some h
        refine uA 2 rfl c_3 ?_
        refine WpOps.nil ?_
        obtain ⟨_, hle_1, hH⟩ := hH.lose_ (i := 0) rfl
        obtain rfl := Sh.some_inj h
        exact ⟨_, hle_1, ((t14_1 + (1 : Int)), (l_2 ++ y_2.toks)), p_5, rfl, ⟨rfl, rfl, rfl, rfl, rfl, rfl, trivial⟩, hH⟩
    ·
      replace h := Sh.ite_neg hb h
      obtain rfl := Sh.some_inj h
      have e := hd_1 _ rfl
      subst e
      refine WpC.exit ?_
      exact ⟨(toks_1, p_2), ⟨rfl, rfl, rfl, trivial⟩, hk_1, hH⟩
  ·
    rintro ⟨l_3, p_6⟩ env H' ⟨h, hH⟩
    try dsimp only at h
    refine ⟨_, uD _, ?_⟩
    refine uC ?_
    refine uA 3 rfl trivial ?_
    refine uB (v := (.lit (.pointer (some ⟨g_1, 0, none⟩)))) rfl rfl (uG rfl rfl rfl) ?_
    obtain ⟨r_1, hr_1, h⟩ := Sh.bind_some h
    have hH := hH.front (i := 3) rfl
    have hH := hH.front (i := 3) rfl
    have hH := hH.front (i := 3) rfl
    refine uE rfl rfl (vI 3 (V := fun b : (Option (Nat × Nat)) => (.tup [(AV.rows 1 (List.map cS r_1.1)), (AV.rows 5 (List.map cGMacro r_1.2))])) (A := fun b : (Option (Nat × Nat)) => [.cell g_1 67 [(AV.rows 2 (List.map cGFile run_1.files)), .lit (.map (some gm_1)), .own (List.map cGTok run_1.told).length b, (iA run_1.includes)], .own 50 6 b (List.map cGTok run_1.told), .many (mapP gm_1 run_1.macros)]) rfl rfl rfl hH (fun H1 hl hh => w_unit_run_names hh hr_1) fun p_7 H' hH => ?_)
    have hH : Holds H0 [.cell g_1 67 [(AV.rows 2 (List.map cGFile run_1.files)), .lit (.map (some gm_1)), .own (List.map cGTok run_1.told).length p_7, (iA run_1.includes)], .own 50 6 p_7 (List.map cGTok run_1.told), .many (mapP gm_1 run_1.macros), .own 50 6 p_6 (List.map cGTok l_3)] _ := hH
    have hH := hH.back 3
    have hH := hH.back 3
    have hH := hH.back 3
    have hH : Holds H0 [.own 50 6 p_6 (List.map cGTok l_3), .cell g_1 67 [(AV.rows 2 (List.map cGFile run_1.files)), .lit (.map (some gm_1)), .own (List.map cGTok run_1.told).length p_7, (iA run_1.includes)], .own 50 6 p_7 (List.map cGTok run_1.told), .many (mapP gm_1 run_1.macros)] _ := hH
    refine uA 5 rfl trivial ?_
    refine WpOps.nil ?_
    refine vJ (t := 5) (i := 0) hH rfl rfl (fun H' hH => ?_)
    refine uC ?_
    obtain ⟨r_2, hr_2, h⟩ := Sh.bind_some h
    refine uA 2 rfl trivial ?_
    refine uE rfl rfl (vI 0 (V := fun b : (Option (Nat × Nat)) => (.tup [.own (List.map cGTok r_2.1).length b, (iA r_2.2)])) (A := fun b : (Option (Nat × Nat)) => [.own 50 6 b (List.map cGTok r_2.1)]) rfl rfl rfl hH (fun H1 hl hh => w_expand_Expand (hG.le hl) hr_2 hh) fun p_8 H' hH => ?_)
    have hH : Holds H0 [.own 50 6 p_8 (List.map cGTok r_2.1), .cell g_1 67 [(AV.rows 2 (List.map cGFile run_1.files)), .lit (.map (some gm_1)), .own (List.map cGTok run_1.told).length p_7, (iA run_1.includes)], .own 50 6 p_7 (List.map cGTok run_1.told), .many (mapP gm_1 run_1.macros)] _ := hH
    refine uA 5 rfl trivial ?_
    refine WpOps.nil ?_
    refine vG (fun x : (Int) × (Unit) => [(0, (.rop (cGUnit_file g_1 f_1))), (1, (AV.rows 3 (List.map cGItem l_1))), (10, (.own (List.map cGTok r_2.1).length p_8)), (11, (iA x.1))]) (fun x H' => (unit_file_text_j4 f_1 run_1 l_1 r_2) x.1 = some r ∧ Holds H0 [.own 50 6 p_8 (List.map cGTok r_2.1), .cell g_1 67 [(AV.rows 2 (List.map cGFile run_1.files)), .lit (.map (some gm_1)), .own (List.map cGTok run_1.told).length p_7, (iA run_1.includes)], .own 50 6 p_7 (List.map cGTok run_1.told), .many (mapP gm_1 run_1.macros)] H') ?_ ?_
    ·
      refine uC ?_
      refine uA 2 rfl trivial ?_
      obtain ⟨b_1, g_3, h⟩ := Sh.bind_some h
      refine uM 14 66 (bA b_1) rfl ?_ ?_
      ·
        refine uA 1 rfl trivial ?_
        refine uL 53 rfl (fun hb => ?_) (fun hb => ?_)
        ·
          replace g_3 := Sh.ite_pos hb g_3
          refine uA 3 rfl trivial ?_
          refine uB (v := (.lit (.pointer (some ⟨g_1, 0, none⟩)))) rfl rfl (uG rfl rfl rfl) ?_
          refine uA 2 rfl trivial ?_
          refine uB (v := (.own (List.map cGTok run_1.told).length p_7)) rfl rfl (Exact.load rfl rfl (hH.cell (i := 1) rfl) rfl rfl) ?_
          refine uA 1 rfl trivial ?_
          refine uN 61 (len_map _ _) ?_
          refine uA 2 rfl trivial ?_
          refine uN 63 (len_map _ _) ?_
          obtain ⟨c_4, g_3⟩ := Sh.chk_some g_3
          refine uA 3 rfl c_4 ?_
          refine WpOps.nil ?_
          obtain rfl := Sh.some_inj g_3
          exact ⟨rfl, rfl⟩
        ·
          replace g_3 := Sh.ite_neg hb g_3
          refine uA 13 rfl trivial ?_
          refine WpOps.nil ?_
          obtain rfl := Sh.some_inj g_3
          exact ⟨rfl, rfl⟩
      intro env
      refine WpOps.nil ?_
      refine uF rfl (fun hb => ?_) (fun hb => ?_)
      ·
        replace h := Sh.ite_pos hb h
        refine uJ ?_
        refine uA 1 rfl trivial ?_
        refine WpOps.nil ?_
        exact ⟨_, (uD _), ((82 : Int), ()), ⟨rfl, rfl, rfl, rfl, trivial⟩, h, hH⟩
      ·
        replace h := Sh.ite_neg hb h
        refine uI ?_
        exact ⟨_, (uD _), (r_2.2, ()), ⟨rfl, rfl, rfl, rfl, trivial⟩, h, hH⟩
    ·
      rintro ⟨e_1, _⟩ env H' ⟨h, hH⟩
      try dsimp only at h
      refine vG (fun x : (List GTok) × ((Option (Nat × Nat))) => [(0, (.rop (cGUnit_file g_1 f_1))), (1, (AV.rows 3 (List.map cGItem l_1))), (10, (.own (List.map cGTok x.1).length x.2)), (11, (iA e_1))]) (fun x H' => (unit_file_text_j5 f_1 run_1 l_1 e_1) x.1 = some r ∧ Holds H0 [.own 50 6 x.2 (List.map cGTok x.1), .cell g_1 67 [(AV.rows 2 (List.map cGFile run_1.files)), .lit (.map (some gm_1)), .own (List.map cGTok run_1.told).length p_7, (iA run_1.includes)], .own 50 6 p_7 (List.map cGTok run_1.told), .many (mapP gm_1 run_1.macros)] H') ?_ ?_
      ·
        refine uC ?_
        refine uA 2 rfl trivial ?_
        refine uN 68 (len_map _ _) ?_
        refine uA 1 rfl trivial ?_
        refine WpOps.nil ?_
        refine uF rfl (fun hb => ?_) (fun hb => ?_)
        ·
          replace h := Sh.ite_pos hb h
          refine uJ ?_
          obtain ⟨y_3, hy_3, h⟩ := Sh.bind_some h
          refine uA 1 rfl trivial ?_
          have hq_1 := h; have hq_2 := hH
          obtain ⟨g_4, cp_1, rfl⟩ := hq_2.grown (i := 0) rfl (ne_of_ix hy_3)
          have h := hq_1; have hH := hq_2
          refine uB rfl rfl (vP (size := 6) cGTok hy_3 rfl rfl rfl rfl (by kernel_rfl) (by decide)) ?_
          refine uA 1 rfl trivial ?_
          refine uE rfl rfl (wA (off := 5) (i := 0) cGTok (y' := (GTok.mk y_3.kind y_3.text y_3.file_ y_3.from_ y_3.to true)) (v := (bA true)) hy_3 hH rfl rfl rfl rfl rfl rfl rfl rfl rfl fun H' hH => ?_)
          refine uN 10 (own_set cGTok r_2.1 ((0 : Int)).toNat (GTok.mk y_3.kind y_3.text y_3.file_ y_3.from_ y_3.to true) _) ?_
          refine uN 67 (own_set cGTok r_2.1 ((0 : Int)).toNat (GTok.mk y_3.kind y_3.text y_3.file_ y_3.from_ y_3.to true) _) ?_
          refine uN 70 (own_set cGTok r_2.1 ((0 : Int)).toNat (GTok.mk y_3.kind y_3.text y_3.file_ y_3.from_ y_3.to true) _) ?_
          refine WpOps.nil ?_
          exact ⟨_, (uD _), ((r_2.1.set ((0 : Int)).toNat (GTok.mk y_3.kind y_3.text y_3.file_ y_3.from_ y_3.to true)), (some (g_4, cp_1))), ⟨rfl, rfl, rfl, rfl, trivial⟩, h, hH⟩
        ·
          replace h := Sh.ite_neg hb h
          refine uI ?_
          exact ⟨_, (uD _), (r_2.1, p_8), ⟨rfl, rfl, rfl, rfl, trivial⟩, h, hH⟩
      ·
        rintro ⟨out_1, p_9⟩ env H' ⟨h, hH⟩
        try dsimp only at h
        refine vJ (t := 10) (i := 0) hH rfl rfl (fun H' hH => ?_)
        refine wJ (fun H => Glob H ∧ True) [.I, .I, .I, .I, .I, .I, .I, .I, .I, .I, .S, .I, .E, .I, .I, .E] [0, 1, 2, 3, 4, 5, 6, 7, 8, 9, 10, 11, 12, 13, 14, 15] (by kernel_rfl) (by kernel_rfl) ⟨hG.up hH, trivial⟩ ?_
        refine uK 3 rfl trivial ?_
        refine uV (v := (.lit (.pointer (some ⟨g_1, 0, none⟩)))) rfl rfl rfl rfl (fun _ => uG rfl rfl rfl) ?_
        refine uK 3 rfl trivial ?_
        refine uV (v := (.lit (.pointer (some ⟨g_1, 0, none⟩)))) rfl rfl rfl rfl (fun _ => uG rfl rfl rfl) ?_
        refine uK 2 rfl trivial ?_
        refine uT (v := (.own (List.map cGTok run_1.told).length p_7)) rfl rfl rfl rfl (Exact.load rfl rfl (hH.cell (i := 0) rfl) rfl rfl) ?_
        obtain ⟨c_5, h⟩ := Sh.chk_some h
        refine uK 1 rfl trivial ?_
        refine vE rfl rfl rfl rfl (WpO.pushA cGTok run_1.told out_1 (i := 1) rfl ek37 hH rfl rfl rfl (.rows _) (fun y _ => one_cGTok y) c_5 (by decide) fun p_10 H' hH => ⟨⟨hG.up hH, trivial⟩, ?_⟩)
        refine uK 2 rfl trivial ?_
        refine vE rfl rfl rfl rfl (uQ (cs' := [(AV.rows 2 (List.map cGFile run_1.files)), .lit (.map (some gm_1)), .own (List.map cGTok (run_1.told ++ out_1)).length p_10, (iA run_1.includes)]) rfl rfl hH (i := 0) rfl rfl rfl rfl rfl rfl rfl fun H' hH => ⟨⟨hG.up hH, trivial⟩, ?_⟩)
        refine WpPi.nil ?_
        refine uC ?_
        obtain ⟨y_4, hy_4, h⟩ := Sh.bind_some h
        refine uA 2 rfl trivial ?_
        refine uB (v := (.rop (cGItem y_4))) rfl rfl (uR cGItem hy_4 rfl rfl rfl rfl (by kernel_rfl) (by decide)) ?_
        refine uA 1 rfl trivial ?_
        refine uB (v := (iA y_4.line_)) rfl rfl (uG rfl rfl rfl) ?_
        obtain ⟨r_3, hr_3, h⟩ := Sh.bind_some h
        refine uA 1 rfl trivial ?_
        refine uB (v := (errA r_3)) rfl rfl (Exact.call rfl rfl rfl (w_unit_file_wrong hr_3)) ?_
        refine uB (v := (errA r_3)) rfl rfl (uZ rfl rfl) ?_
        refine WpOps.nil ?_
        have hH : Holds H0 [.cell g_1 67 [(AV.rows 2 (List.map cGFile run_1.files)), .lit (.map (some gm_1)), .own (List.map cGTok (run_1.told ++ out_1)).length p_10, (iA run_1.includes)], .own 50 6 p_10 (List.map cGTok (run_1.told ++ out_1)), .many (mapP gm_1 run_1.macros)] _ := hH
        obtain rfl := Sh.some_inj h
        refine WpC.ret ?_
        exact uH rfl (forceA_rfl rfl) ⟨p_10, rfl, hH⟩
structure UnitOk (R : UnitR) : Prop where
 w_unit_run_file : ∀ {H0 H : Heap} (hG : Glob H0) {g_1 : Nat} {gm_1 : Nat} {p_1 : Option (Nat × Nat)} {r_1 : GUnit_run} {number_1 : Int} {deep_1 : Int} {r : (Option GFault) × GUnit_run} (h : R.unit_run_file r_1 number_1 deep_1 = some r) (hH : Holds H0 [.cell g_1 67 [(AV.rows 2 (List.map cGFile r_1.files)), .lit (.map (some gm_1)), .own (List.map cGTok r_1.told).length p_1, (iA r_1.includes)], .own 50 6 p_1 (List.map cGTok r_1.told), .many (mapP gm_1 r_1.macros)] H), TCall Tryz.prog 27 [(.lit (.pointer (some ⟨g_1, 0, none⟩))), (iA number_1), (iA deep_1)] H (fun v H' => ∃ b : (Option (Nat × Nat)), v = ((errA r.1)) ∧ Holds H0 [.cell g_1 67 [(AV.rows 2 (List.map cGFile r.2.files)), .lit (.map (some gm_1)), .own (List.map cGTok r.2.told).length b, (iA r.2.includes)], .own 50 6 b (List.map cGTok r.2.told), .many (mapP gm_1 r.2.macros)] H') noE
 w_unit_file_items : ∀ {H0 H : Heap} (hG : Glob H0) {g_1 : Nat} {gm_1 : Nat} {p_1 : Option (Nat × Nat)} {f_1 : GUnit_file} {run_1 : GUnit_run} {l_1 : List GItem} {r : (Option GFault) × GUnit_run} (h : R.unit_file_items f_1 run_1 l_1 = some r) (hH : Holds H0 [.cell g_1 67 [(AV.rows 2 (List.map cGFile run_1.files)), .lit (.map (some gm_1)), .own (List.map cGTok run_1.told).length p_1, (iA run_1.includes)], .own 50 6 p_1 (List.map cGTok run_1.told), .many (mapP gm_1 run_1.macros)] H), TCall Tryz.prog 59 [(.rop (cGUnit_file g_1 f_1)), (AV.rows 3 (List.map cGItem l_1))] H (fun v H' => ∃ b : (Option (Nat × Nat)), v = ((errA r.1)) ∧ Holds H0 [.cell g_1 67 [(AV.rows 2 (List.map cGFile r.2.files)), .lit (.map (some gm_1)), .own (List.map cGTok r.2.told).length b, (iA r.2.includes)], .own 50 6 b (List.map cGTok r.2.told), .many (mapP gm_1 r.2.macros)] H') noE
 w_unit_file_branches : ∀ {H0 H : Heap} (hG : Glob H0) {g_1 : Nat} {gm_1 : Nat} {p_1 : Option (Nat × Nat)} {f_1 : GUnit_file} {run_1 : GUnit_run} {l_1 : List GBranch} {r : (Option GFault) × GUnit_run} (h : R.unit_file_branches f_1 run_1 l_1 = some r) (hH : Holds H0 [.cell g_1 67 [(AV.rows 2 (List.map cGFile run_1.files)), .lit (.map (some gm_1)), .own (List.map cGTok run_1.told).length p_1, (iA run_1.includes)], .own 50 6 p_1 (List.map cGTok run_1.told), .many (mapP gm_1 run_1.macros)] H), TCall Tryz.prog 95 [(.rop (cGUnit_file g_1 f_1)), (AV.rows 2 (List.map cGBranch l_1))] H (fun v H' => ∃ b : (Option (Nat × Nat)), v = ((errA r.1)) ∧ Holds H0 [.cell g_1 67 [(AV.rows 2 (List.map cGFile r.2.files)), .lit (.map (some gm_1)), .own (List.map cGTok r.2.told).length b, (iA r.2.includes)], .own 50 6 b (List.map cGTok r.2.told), .many (mapP gm_1 r.2.macros)] H') noE
 w_unit_file_directive : ∀ {H0 H : Heap} (hG : Glob H0) {g_1 : Nat} {gm_1 : Nat} {p_1 : Option (Nat × Nat)} {f_1 : GUnit_file} {run_1 : GUnit_run} {line_1 : Int} {r : (Option GFault) × GUnit_run} (h : R.unit_file_directive f_1 run_1 line_1 = some r) (hH : Holds H0 [.cell g_1 67 [(AV.rows 2 (List.map cGFile run_1.files)), .lit (.map (some gm_1)), .own (List.map cGTok run_1.told).length p_1, (iA run_1.includes)], .own 50 6 p_1 (List.map cGTok run_1.told), .many (mapP gm_1 run_1.macros)] H), TCall Tryz.prog 96 [(.rop (cGUnit_file g_1 f_1)), (iA line_1)] H (fun v H' => ∃ b : (Option (Nat × Nat)), v = ((errA r.1)) ∧ Holds H0 [.cell g_1 67 [(AV.rows 2 (List.map cGFile r.2.files)), .lit (.map (some gm_1)), .own (List.map cGTok r.2.told).length b, (iA r.2.includes)], .own 50 6 b (List.map cGTok r.2.told), .many (mapP gm_1 r.2.macros)] H') noE
 w_unit_file_include : ∀ {H0 H : Heap} (hG : Glob H0) {g_1 : Nat} {gm_1 : Nat} {p_1 : Option (Nat × Nat)} {f_1 : GUnit_file} {run_1 : GUnit_run} {line_1 : Int} {r : (Option GFault) × GUnit_run} (h : R.unit_file_include f_1 run_1 line_1 = some r) (hH : Holds H0 [.cell g_1 67 [(AV.rows 2 (List.map cGFile run_1.files)), .lit (.map (some gm_1)), .own (List.map cGTok run_1.told).length p_1, (iA run_1.includes)], .own 50 6 p_1 (List.map cGTok run_1.told), .many (mapP gm_1 run_1.macros)] H), TCall Tryz.prog 115 [(.rop (cGUnit_file g_1 f_1)), (iA line_1)] H (fun v H' => ∃ b : (Option (Nat × Nat)), v = ((errA r.1)) ∧ Holds H0 [.cell g_1 67 [(AV.rows 2 (List.map cGFile r.2.files)), .lit (.map (some gm_1)), .own (List.map cGTok r.2.told).length b, (iA r.2.includes)], .own 50 6 b (List.map cGTok r.2.told), .many (mapP gm_1 r.2.macros)] H') noE
theorem w_unit_run_fileF {R : UnitR} (hR : UnitOk R) {H0 H : Heap} (hG : Glob H0) {g_1 : Nat} {gm_1 : Nat} {p_1 : Option (Nat × Nat)} {r_1 : GUnit_run} {number_1 : Int} {deep_1 : Int} {r : (Option GFault) × GUnit_run} (h : unit_run_fileF R r_1 number_1 deep_1 = some r) (hH : Holds H0 [.cell g_1 67 [(AV.rows 2 (List.map cGFile r_1.files)), .lit (.map (some gm_1)), .own (List.map cGTok r_1.told).length p_1, (iA r_1.includes)], .own 50 6 p_1 (List.map cGTok r_1.told), .many (mapP gm_1 r_1.macros)] H) : TCall Tryz.prog 27 [(.lit (.pointer (some ⟨g_1, 0, none⟩))), (iA number_1), (iA deep_1)] H (fun v H' => ∃ b : (Option (Nat × Nat)), v = ((errA r.1)) ∧ Holds H0 [.cell g_1 67 [(AV.rows 2 (List.map cGFile r.2.files)), .lit (.map (some gm_1)), .own (List.map cGTok r.2.told).length b, (iA r.2.includes)], .own 50 6 b (List.map cGTok r.2.told), .many (mapP gm_1 r.2.macros)] H') noE := by
 refine id (TCall.body Tryz.func27 rfl rfl ?_)
 refine uC ?_
 refine uB (v := (errA (none : Option GFault))) rfl rfl (uZ rfl rfl) ?_
 refine WpOps.nil ?_
 refine uC ?_
 refine uA 6 rfl trivial ?_
 refine uB (v := (AV.rows 2 (List.map cGFile r_1.files))) rfl rfl (Exact.load rfl rfl (hH.cell (i := 0) rfl) rfl rfl) ?_
 obtain ⟨y_1, hy_1, h⟩ := Sh.bind_some h
 refine uA 1 rfl trivial ?_
 refine uB (v := (.rop (cGFile y_1))) rfl rfl (uR cGFile hy_1 rfl rfl rfl rfl (by kernel_rfl) (by decide)) ?_
 refine uA 1 rfl trivial ?_
 refine uB (v := (sA y_1.text)) rfl rfl (uG rfl rfl rfl) ?_
 obtain ⟨r_2, hr_1, h⟩ := Sh.bind_some h
 refine uB (v := (AV.rows 6 (List.map cGTok r_2))) rfl rfl (Exact.call rfl rfl rfl (w_pptok_Tokens (hG.up hH) hr_1)) ?_
 obtain ⟨r_3, hr_2, h⟩ := Sh.bind_some h
 refine uB (v := (AV.rows 4 (List.map cGLine r_3))) rfl rfl (Exact.call rfl rfl rfl (w_direct_Lines (hG.up hH) hr_2)) ?_
 refine uA 2 rfl trivial ?_
 refine uE rfl rfl (vF (v := .agg (cGUnit_file g_1 (GUnit_file.mk number_1 r_3 deep_1))) rfl rfl hH fun g_2 H' hH => ?_)
 refine uA 1 rfl trivial ?_
 refine WpOps.nil ?_
 refine WpC.ice (t := 7) (i := 0) hH rfl rfl (fun H' hH => ?_)
 refine uC ?_
 refine uA 3 rfl trivial ?_
 refine uB (v := (AV.rows 4 (List.map cGLine r_3))) rfl rfl (uG rfl rfl rfl) ?_
 obtain ⟨r_4, hr_3, h⟩ := Sh.bind_some h
 refine uB (v := (.tup [(AV.rows 3 (List.map cGItem r_4.1)), (iA r_4.2.1), (iA r_4.2.2)])) rfl rfl (Exact.call rfl rfl rfl (w_cond_Parse hr_3)) ?_
 refine uA 7 rfl trivial ?_
 refine WpOps.nil ?_
 refine WpC.seq ?_
 refine uC ?_
 refine uA 2 rfl trivial ?_
 refine WpOps.nil ?_
 refine uF rfl (fun hb => ?_) (fun hb => ?_)
 ·
  replace h := Sh.ite_pos hb h
  refine uC ?_
  obtain ⟨r_5, hr_4, h⟩ := Sh.bind_some h
  refine uA 3 rfl trivial ?_
  refine uB (v := (errA r_5)) rfl rfl (Exact.call rfl rfl rfl (w_unit_file_wrong hr_4)) ?_
  refine uB (v := (errA r_5)) rfl rfl (uZ rfl rfl) ?_
  refine WpOps.nil ?_
  have hH : Holds H0 [.cell g_1 67 [(AV.rows 2 (List.map cGFile r_1.files)), .lit (.map (some gm_1)), .own (List.map cGTok r_1.told).length p_1, (iA r_1.includes)], .own 50 6 p_1 (List.map cGTok r_1.told), .many (mapP gm_1 r_1.macros)] _ := hH
  obtain rfl := Sh.some_inj h
  refine WpC.ret ?_
  exact uH rfl (forceA_rfl rfl) ⟨p_1, rfl, hH⟩
 ·
  replace h := Sh.ite_neg hb h
  refine uI ?_
  refine ⟨_, uD _, ?_⟩
  refine uC ?_
  obtain ⟨r_6, hr_5, h⟩ := Sh.bind_some h
  refine uA 2 rfl trivial ?_
  have hH := hH.front (i := 2) rfl
  have hH := hH.front (i := 2) rfl
  have hH := hH.front (i := 2) rfl
  refine uE rfl rfl (vI 3 (V := fun b : (Option (Nat × Nat)) => ((errA r_6.1))) (A := fun b : (Option (Nat × Nat)) => [.cell g_1 67 [(AV.rows 2 (List.map cGFile r_6.2.files)), .lit (.map (some gm_1)), .own (List.map cGTok r_6.2.told).length b, (iA r_6.2.includes)], .own 50 6 b (List.map cGTok r_6.2.told), .many (mapP gm_1 r_6.2.macros)]) rfl rfl rfl hH (fun H1 hl hh => hR.w_unit_file_items (hG.le hl) hr_5 hh) fun p_2 H' hH => ?_)
  have hH : Holds H0 [.cell g_1 67 [(AV.rows 2 (List.map cGFile r_6.2.files)), .lit (.map (some gm_1)), .own (List.map cGTok r_6.2.told).length p_2, (iA r_6.2.includes)], .own 50 6 p_2 (List.map cGTok r_6.2.told), .many (mapP gm_1 r_6.2.macros)] _ := hH
  have hH := hH.back 2
  have hH := hH.back 2
  have hH := hH.back 2
  have hH : Holds H0 [.cell g_1 67 [(AV.rows 2 (List.map cGFile r_6.2.files)), .lit (.map (some gm_1)), .own (List.map cGTok r_6.2.told).length p_2, (iA r_6.2.includes)], .own 50 6 p_2 (List.map cGTok r_6.2.told), .many (mapP gm_1 r_6.2.macros)] _ := hH
  refine uB (v := (errA r_6.1)) rfl rfl (uZ rfl rfl) ?_
  refine WpOps.nil ?_
  have hH : Holds H0 [.cell g_1 67 [(AV.rows 2 (List.map cGFile r_6.2.files)), .lit (.map (some gm_1)), .own (List.map cGTok r_6.2.told).length p_2, (iA r_6.2.includes)], .own 50 6 p_2 (List.map cGTok r_6.2.told), .many (mapP gm_1 r_6.2.macros)] _ := hH
  obtain rfl := Sh.some_inj h
  refine WpC.ret ?_
  exact uH rfl (forceA_rfl rfl) ⟨p_2, rfl, hH⟩
theorem w_unit_file_itemsF {R : UnitR} (hR : UnitOk R) {H0 H : Heap} (hG : Glob H0) {g_1 : Nat} {gm_1 : Nat} {p_1 : Option (Nat × Nat)} {f_1 : GUnit_file} {run_1 : GUnit_run} {l_1 : List GItem} {r : (Option GFault) × GUnit_run} (h : unit_file_itemsF R f_1 run_1 l_1 = some r) (hH : Holds H0 [.cell g_1 67 [(AV.rows 2 (List.map cGFile run_1.files)), .lit (.map (some gm_1)), .own (List.map cGTok run_1.told).length p_1, (iA run_1.includes)], .own 50 6 p_1 (List.map cGTok run_1.told), .many (mapP gm_1 run_1.macros)] H) : TCall Tryz.prog 59 [(.rop (cGUnit_file g_1 f_1)), (AV.rows 3 (List.map cGItem l_1))] H (fun v H' => ∃ b : (Option (Nat × Nat)), v = ((errA r.1)) ∧ Holds H0 [.cell g_1 67 [(AV.rows 2 (List.map cGFile r.2.files)), .lit (.map (some gm_1)), .own (List.map cGTok r.2.told).length b, (iA r.2.includes)], .own 50 6 b (List.map cGTok r.2.told), .many (mapP gm_1 r.2.macros)] H') noE := by
 refine id (TCall.body Tryz.func59 rfl rfl ?_)
 refine uC ?_
 refine uB (v := (errA (none : Option GFault))) rfl rfl (uZ rfl rfl) ?_
 refine WpOps.nil ?_
 refine WpC.seq ?_
 refine uC ?_
 refine uA 1 rfl trivial ?_
 refine WpOps.nil ?_
 refine vA (fun x : (GUnit_run) × ((Option (Nat × Nat))) => []) (fun x H' => (unit_file_items_j1 R) x.1 = some r ∧ Holds H0 [.cell g_1 67 [(AV.rows 2 (List.map cGFile x.1.files)), .lit (.map (some gm_1)), .own (List.map cGTok x.1.told).length x.2, (iA x.1.includes)], .own 50 6 x.2 (List.map cGTok x.1.told), .many (mapP gm_1 x.1.macros)] H') ?_ ?_
 ·
  obtain ⟨o_1, ho_1, hk_1⟩ := Sh.bind_some h
  refine uX ((unit_file_items_b2 R) f_1 l_1) (fun (s : Int × GUnit_run) (a : (Option (Nat × Nat))) => [(0, (.rop (cGUnit_file g_1 f_1))), (1, (AV.rows 3 (List.map cGItem l_1))), (5, (iA s.1))]) (fun (s : Int × GUnit_run) (a : (Option (Nat × Nat))) H' => Holds H0 [.cell g_1 67 [(AV.rows 2 (List.map cGFile s.2.files)), .lit (.map (some gm_1)), .own (List.map cGTok s.2.told).length a, (iA s.2.includes)], .own 50 6 a (List.map cGTok s.2.told), .many (mapP gm_1 s.2.macros)] H') o_1 ((0 : Int), run_1) p_1 ho_1 ⟨rfl, rfl, rfl, trivial⟩ hH ?_
  rintro ⟨i_1, l_2⟩ p_2 st_1 env H' h hd_1 hH
  refine WpC.seq ?_
  refine uC ?_
  refine uA 3 rfl trivial ?_
  refine uN 11 (len_map _ _) ?_
  refine uA 1 rfl trivial ?_
  refine WpOps.nil ?_
  refine uF rfl (fun hb => ?_) (fun hb => ?_)
  ·
   replace h := Sh.ite_pos hb h
   refine uI ?_
   refine ⟨_, uD _, ?_⟩
   refine WpC.seq ?_
   refine WpC.block ?_
   refine uC ?_
   obtain ⟨y_1, hy_1, h⟩ := Sh.bind_some h
   refine uA 2 rfl trivial ?_
   refine uB (v := (.rop (cGItem y_1))) rfl rfl (uR cGItem hy_1 rfl rfl rfl rfl (by kernel_rfl) (by decide)) ?_
   refine uB (v := (AV.agg (cGItem y_1))) rfl rfl (uG rfl rfl rfl) ?_
   refine uE rfl rfl (vK (z' := cGItem (GItem.mk (0 : Int) (0 : Int) ([] : List GBranch))) rfl rfl (.cons (.refl _) (.cons (.refl _) (.cons (Sub.nil _) .nil))) hH fun g_2 H' hH => ?_)
   refine uE rfl rfl (uQ (cs' := (cGItem y_1)) (v := (AV.agg (cGItem y_1))) rfl rfl hH (i := 0) rfl rfl rfl rfl rfl rfl rfl fun H' hH => ?_)
   refine WpOps.nil ?_
   refine uC ?_
   refine uB (v := (errA (none : Option GFault))) rfl rfl (uZ rfl rfl) ?_
   refine WpOps.nil ?_
   refine wM (fun x : (Int × Option GFault × GUnit_run) × ((Option (Nat × Nat))) => [(0, (.rop (cGUnit_file g_1 f_1))), (1, (AV.rows 3 (List.map cGItem l_1))), (5, (iA x.1.1)), (7, (errA x.1.2.1))]) (fun x H' => (unit_file_items_j3 R) x.1 = some st_1 ∧ Holds H0 [.cell g_1 67 [(AV.rows 2 (List.map cGFile x.1.2.2.files)), .lit (.map (some gm_1)), .own (List.map cGTok x.1.2.2.told).length x.2, (iA x.1.2.2.includes)], .own 50 6 x.2 (List.map cGTok x.1.2.2.told), .many (mapP gm_1 x.1.2.2.macros)] H') ?_ ?_
   ·
    refine uC ?_
    refine uA 1 rfl trivial ?_
    refine uB (v := (AV.rows 2 (List.map cGBranch y_1.branches))) rfl rfl (Exact.load rfl rfl (hH.cell (i := 0) rfl) rfl rfl) ?_
    refine uA 1 rfl trivial ?_
    refine uN 63 (len_map _ _) ?_
    refine uA 2 rfl trivial ?_
    refine WpOps.nil ?_
    refine uF rfl (fun hb => ?_) (fun hb => ?_)
    ·
     replace h := Sh.ite_pos hb h
     refine uJ ?_
     refine uA 2 rfl trivial ?_
     refine uB (v := (AV.rows 2 (List.map cGBranch y_1.branches))) rfl rfl (Exact.load rfl rfl (hH.cell (i := 0) rfl) rfl rfl) ?_
     obtain ⟨r_1, hr_1, h⟩ := Sh.bind_some h
     have hH := hH.front (i := 3) rfl
     have hH := hH.front (i := 3) rfl
     have hH := hH.front (i := 3) rfl
     refine uE rfl rfl (vI 3 (V := fun b : (Option (Nat × Nat)) => ((errA r_1.1))) (A := fun b : (Option (Nat × Nat)) => [.cell g_1 67 [(AV.rows 2 (List.map cGFile r_1.2.files)), .lit (.map (some gm_1)), .own (List.map cGTok r_1.2.told).length b, (iA r_1.2.includes)], .own 50 6 b (List.map cGTok r_1.2.told), .many (mapP gm_1 r_1.2.macros)]) rfl rfl rfl hH (fun H1 hl hh => hR.w_unit_file_branches (hG.le hl) hr_1 hh) fun p_3 H' hH => ?_)
     have hH : Holds H0 [.cell g_1 67 [(AV.rows 2 (List.map cGFile r_1.2.files)), .lit (.map (some gm_1)), .own (List.map cGTok r_1.2.told).length p_3, (iA r_1.2.includes)], .own 50 6 p_3 (List.map cGTok r_1.2.told), .many (mapP gm_1 r_1.2.macros), .cell g_2 186 (cGItem y_1)] _ := hH
     have hH := hH.back 3
     have hH := hH.back 3
     have hH := hH.back 3
     have hH : Holds H0 [.cell g_2 186 (cGItem y_1), .cell g_1 67 [(AV.rows 2 (List.map cGFile r_1.2.files)), .lit (.map (some gm_1)), .own (List.map cGTok r_1.2.told).length p_3, (iA r_1.2.includes)], .own 50 6 p_3 (List.map cGTok r_1.2.told), .many (mapP gm_1 r_1.2.macros)] _ := hH
     refine uB (v := (errA r_1.1)) rfl rfl (uZ rfl rfl) ?_
     refine WpOps.nil ?_
     obtain ⟨_, hle_1, hH⟩ := hH.lose_ (i := 0) rfl
     exact ⟨_, hle_1, ((i_1, r_1.1, r_1.2), p_3), ⟨rfl, rfl, rfl, rfl, trivial⟩, h, hH⟩
    ·
     replace h := Sh.ite_neg hb h
     refine vO [.I, .I, .I, .I, .I, .S] [0, 1, 2, 3, 4, 5, 6, 7, 8, 9, 10] (by kernel_rfl) (by kernel_rfl) ?_
     refine uK 3 rfl trivial ?_
     refine uV (v := (AV.rows 4 (List.map cGLine f_1.lines))) rfl rfl rfl rfl (fun _ => uG rfl rfl rfl) ?_
     refine uK 1 rfl trivial ?_
     refine uT (v := (iA y_1.line_)) rfl rfl rfl rfl (Exact.load rfl rfl (hH.cell (i := 0) rfl) rfl rfl) ?_
     obtain ⟨y_2, hy_2, h⟩ := Sh.bind_some h
     refine uV (v := (.rop (cGLine y_2))) rfl rfl rfl rfl (fun _ => uR cGLine hy_2 rfl rfl rfl rfl (by kernel_rfl) (by decide)) ?_
     refine uK 1 rfl trivial ?_
     refine uV (v := (iA y_2.kind)) rfl rfl rfl rfl (fun _ => uG rfl rfl rfl) ?_
     refine uK 2 rfl trivial ?_
     refine WpPi.nil ?_
     refine uF rfl (fun hb => ?_) (fun hb => ?_)
     ·
      replace h := Sh.ite_pos hb h
      refine uJ ?_
      refine uA 2 rfl trivial ?_
      refine uB (v := (iA y_1.line_)) rfl rfl (Exact.load rfl rfl (hH.cell (i := 0) rfl) rfl rfl) ?_
      obtain ⟨r_2, hr_2, h⟩ := Sh.bind_some h
      have hH := hH.front (i := 3) rfl
      have hH := hH.front (i := 3) rfl
      have hH := hH.front (i := 3) rfl
      refine uE rfl rfl (vI 3 (V := fun b : (Option (Nat × Nat)) => ((errA r_2.1))) (A := fun b : (Option (Nat × Nat)) => [.cell g_1 67 [(AV.rows 2 (List.map cGFile r_2.2.files)), .lit (.map (some gm_1)), .own (List.map cGTok r_2.2.told).length b, (iA r_2.2.includes)], .own 50 6 b (List.map cGTok r_2.2.told), .many (mapP gm_1 r_2.2.macros)]) rfl rfl rfl hH (fun H1 hl hh => hR.w_unit_file_directive (hG.le hl) hr_2 hh) fun p_4 H' hH => ?_)
      have hH : Holds H0 [.cell g_1 67 [(AV.rows 2 (List.map cGFile r_2.2.files)), .lit (.map (some gm_1)), .own (List.map cGTok r_2.2.told).length p_4, (iA r_2.2.includes)], .own 50 6 p_4 (List.map cGTok r_2.2.told), .many (mapP gm_1 r_2.2.macros), .cell g_2 186 (cGItem y_1)] _ := hH
      have hH := hH.back 3
      have hH := hH.back 3
      have hH := hH.back 3
      have hH : Holds H0 [.cell g_2 186 (cGItem y_1), .cell g_1 67 [(AV.rows 2 (List.map cGFile r_2.2.files)), .lit (.map (some gm_1)), .own (List.map cGTok r_2.2.told).length p_4, (iA r_2.2.includes)], .own 50 6 p_4 (List.map cGTok r_2.2.told), .many (mapP gm_1 r_2.2.macros)] _ := hH
      refine uB (v := (errA r_2.1)) rfl rfl (uZ rfl rfl) ?_
      refine WpOps.nil ?_
      obtain ⟨_, hle_2, hH⟩ := hH.lose_ (i := 0) rfl
      exact ⟨_, hle_2, ((i_1, r_2.1, r_2.2), p_4), ⟨rfl, rfl, rfl, rfl, trivial⟩, h, hH⟩
     ·
      replace h := Sh.ite_neg hb h
      refine uC ?_
      refine uA 2 rfl trivial ?_
      refine WpOps.nil ?_
      refine uP (i := 0) hH rfl (fun H' hH => ?_)
      refine wM (fun x : (Int) × (Unit) => [(0, (.rop (cGUnit_file g_1 f_1))), (1, (AV.rows 3 (List.map cGItem l_1))), (5, (iA x.1)), (8, (iA i_1))]) (fun x H' => ((unit_file_items_j4 R) f_1 l_1 i_1 l_2) x.1 = some st_1 ∧ Holds H0 [.cell g_1 67 [(AV.rows 2 (List.map cGFile l_2.files)), .lit (.map (some gm_1)), .own (List.map cGTok l_2.told).length p_2, (iA l_2.includes)], .own 50 6 p_2 (List.map cGTok l_2.told), .many (mapP gm_1 l_2.macros)] H') ?_ ?_
      ·
       obtain ⟨o_2, ho_2, hk_2⟩ := Sh.bind_some h
       refine uX ((unit_file_items_b5 R) f_1 l_1) (fun (s : Int) (a : Unit) => [(0, (.rop (cGUnit_file g_1 f_1))), (1, (AV.rows 3 (List.map cGItem l_1))), (5, (iA s)), (8, (iA i_1))]) (fun (s : Int) (a : Unit) H' => Holds H0 [.cell g_1 67 [(AV.rows 2 (List.map cGFile l_2.files)), .lit (.map (some gm_1)), .own (List.map cGTok l_2.told).length p_2, (iA l_2.includes)], .own 50 6 p_2 (List.map cGTok l_2.told), .many (mapP gm_1 l_2.macros)] H') o_2 i_1 () ho_2 ⟨rfl, rfl, rfl, rfl, trivial⟩ hH ?_
       rintro i_2 _ st_2 env H' h hd_2 hH
       refine WpC.seq ?_
       refine vO [] [0, 1, 2, 3, 4, 5, 6, 7, 8, 9, 10, 11, 12, 13, 14, 15, 16, 17, 18, 19, 20, 21, 22, 23, 24, 25, 26, 27, 28, 29, 30] (by kernel_rfl) (by kernel_rfl) ?_
       obtain ⟨c_1, h⟩ := Sh.chk_some h
       refine uK 4 rfl c_1 ?_
       refine WpPi.at 23 (len_map _ _) ?_
       refine uK 1 rfl trivial ?_
       obtain ⟨b_1, g_3, h⟩ := Sh.bind_some h
       refine WpPi.cutB 10 34 (bA b_1) rfl ?_ ?_
       ·
        refine uK 1 rfl trivial ?_
        refine wK 25 rfl (fun hb => ?_) (fun hb => ?_)
        ·
         replace g_3 := Sh.ite_pos hb g_3
         obtain ⟨c_2, g_3⟩ := Sh.chk_some g_3
         obtain ⟨y_3, hy_3, g_3⟩ := Sh.bind_some g_3
         refine uK 3 rfl c_2 ?_
         refine uV (v := (.rop (cGItem y_3))) rfl rfl rfl rfl (fun _ => uR cGItem hy_3 rfl rfl rfl rfl (by kernel_rfl) (by decide)) ?_
         refine uK 1 rfl trivial ?_
         refine uV (v := (AV.rows 2 (List.map cGBranch y_3.branches))) rfl rfl rfl rfl (fun _ => uG rfl rfl rfl) ?_
         refine uK 1 rfl trivial ?_
         refine WpPi.at 32 (len_map _ _) ?_
         refine uK 2 rfl trivial ?_
         refine WpPi.nil ?_
         obtain rfl := Sh.some_inj g_3
         exact ⟨rfl, rfl⟩
        ·
         replace g_3 := Sh.ite_neg hb g_3
         refine uK 3 rfl trivial ?_
         refine WpPi.skip rfl rfl rfl ?_
         refine uK 1 rfl trivial ?_
         refine WpPi.skip rfl rfl rfl ?_
         refine uK 3 rfl trivial ?_
         refine WpPi.nil ?_
         obtain rfl := Sh.some_inj g_3
         exact ⟨rfl, rfl⟩
       intro env
       obtain ⟨b_2, g_4, h⟩ := Sh.bind_some h
       refine WpPi.cutB 16 50 (bA b_2) rfl ?_ ?_
       ·
        refine uK 1 rfl trivial ?_
        refine wK 35 rfl (fun hb => ?_) (fun hb => ?_)
        ·
         replace g_4 := Sh.ite_pos hb g_4
         refine uK 3 rfl trivial ?_
         refine uV (v := (AV.rows 4 (List.map cGLine f_1.lines))) rfl rfl rfl rfl (fun _ => uG rfl rfl rfl) ?_
         obtain ⟨c_3, g_4⟩ := Sh.chk_some g_4
         obtain ⟨y_4, hy_4, g_4⟩ := Sh.bind_some g_4
         refine uK 3 rfl c_3 ?_
         refine uV (v := (.rop (cGItem y_4))) rfl rfl rfl rfl (fun _ => uR cGItem hy_4 rfl rfl rfl rfl (by kernel_rfl) (by decide)) ?_
         refine uK 1 rfl trivial ?_
         refine uV (v := (iA y_4.line_)) rfl rfl rfl rfl (fun _ => uG rfl rfl rfl) ?_
         obtain ⟨y_5, hy_5, g_4⟩ := Sh.bind_some g_4
         refine uV (v := (.rop (cGLine y_5))) rfl rfl rfl rfl (fun _ => uR cGLine hy_5 rfl rfl rfl rfl (by kernel_rfl) (by decide)) ?_
         refine uK 1 rfl trivial ?_
         refine uV (v := (iA y_5.kind)) rfl rfl rfl rfl (fun _ => uG rfl rfl rfl) ?_
         refine uK 2 rfl trivial ?_
         refine WpPi.nil ?_
         obtain rfl := Sh.some_inj g_4
         exact ⟨rfl, rfl⟩
        ·
         replace g_4 := Sh.ite_neg hb g_4
         refine uK 3 rfl trivial ?_
         refine WpPi.skip rfl rfl rfl ?_
         refine uK 3 rfl trivial ?_
         refine WpPi.skip rfl rfl rfl ?_
         refine uK 1 rfl trivial ?_
         refine WpPi.skip rfl rfl rfl ?_
         refine WpPi.skip rfl rfl rfl ?_
         refine uK 1 rfl trivial ?_
         refine WpPi.skip rfl rfl rfl ?_
         refine uK 2 rfl trivial ?_
         refine WpPi.nil ?_
         obtain rfl := Sh.some_inj g_4
         exact ⟨rfl, rfl⟩
       intro env
       refine WpPi.nil ?_
       refine uF rfl (fun hb => ?_) (fun hb => ?_)
       ·
        replace h := Sh.ite_pos hb h
        refine uI ?_
        refine ⟨_, uD _, ?_⟩
        refine WpC.block ?_
        refine uJ ?_
        obtain ⟨c_4, h⟩ := Sh.chk_some h
        refine uA 3 rfl c_4 ?_
        refine WpOps.nil ?_
        obtain rfl := Sh.some_inj h
        exact ⟨_, (uD _), (i_2 + (1 : Int)), (), rfl, ⟨rfl, rfl, rfl, rfl, trivial⟩, hH⟩
       ·
        replace h := Sh.ite_neg hb h
        obtain rfl := Sh.some_inj h
        have e := hd_2 _ rfl
        subst e
        refine WpC.exit ?_
        exact ⟨(i_2, ()), ⟨rfl, rfl, rfl, rfl, trivial⟩, hk_2, hH⟩
      ·
       rintro ⟨i_3, _⟩ env H' ⟨h, hH⟩
       try dsimp only at h
       refine uJ ?_
       obtain ⟨c_5, h⟩ := Sh.chk_some h
       obtain ⟨c_6, h⟩ := Sh.chk_some h
       refine uA 5 rfl c_5 ?_
       refine uA 1 rfl (show 0 ≤ i_1 ∧ 0 ≤ (i_3 + (1 : Int)) ∧ True ∧ ((i_1).toNat ≤ ((i_3 + (1 : Int))).toNat ∧ ((i_3 + (1 : Int))).toNat ≤ (List.map cGItem l_1).length) ∧ True from ⟨(by omega), (by omega), trivial, (by simp only [List.length_map]; omega), trivial⟩) ?_
       refine uN 58 (rows_cut 3 cGItem l_1 _ _) ?_
       obtain ⟨r_3, hr_3, h⟩ := Sh.bind_some h
       have hH := hH.front (i := 2) rfl
       have hH := hH.front (i := 2) rfl
       have hH := hH.front (i := 2) rfl
       refine uE rfl rfl (vI 3 (V := fun b : (Option (Nat × Nat)) => ((errA r_3.1))) (A := fun b : (Option (Nat × Nat)) => [.cell g_1 67 [(AV.rows 2 (List.map cGFile r_3.2.files)), .lit (.map (some gm_1)), .own (List.map cGTok r_3.2.told).length b, (iA r_3.2.includes)], .own 50 6 b (List.map cGTok r_3.2.told), .many (mapP gm_1 r_3.2.macros)]) rfl rfl rfl hH (fun H1 hl hh => w_unit_file_text (hG.le hl) hr_3 hh) fun p_5 H' hH => ?_)
       have hH : Holds H0 [.cell g_1 67 [(AV.rows 2 (List.map cGFile r_3.2.files)), .lit (.map (some gm_1)), .own (List.map cGTok r_3.2.told).length p_5, (iA r_3.2.includes)], .own 50 6 p_5 (List.map cGTok r_3.2.told), .many (mapP gm_1 r_3.2.macros)] _ := hH
       have hH := hH.back 2
       have hH := hH.back 2
       have hH := hH.back 2
       have hH : Holds H0 [.cell g_1 67 [(AV.rows 2 (List.map cGFile r_3.2.files)), .lit (.map (some gm_1)), .own (List.map cGTok r_3.2.told).length p_5, (iA r_3.2.includes)], .own 50 6 p_5 (List.map cGTok r_3.2.told), .many (mapP gm_1 r_3.2.macros)] _ := hH
       refine uB (v := (errA r_3.1)) rfl rfl (uZ rfl rfl) ?_
       refine WpOps.nil ?_
       exact ⟨_, (uD _), ((i_3, r_3.1, r_3.2), p_5), ⟨rfl, rfl, rfl, rfl, trivial⟩, h, hH⟩
   ·
    rintro ⟨⟨i_4, e_1, l_3⟩, p_6⟩ env H' ⟨h, hH⟩
    try dsimp only at h
    refine uC ?_
    refine uB (v := (errA e_1)) rfl rfl (wC rfl rfl) ?_
    refine uB (v := (bA (e_1).isSome)) rfl rfl (Exact.errIs rfl rfl rfl) ?_
    refine WpOps.nil ?_
    refine uF rfl (fun hb => ?_) (fun hb => ?_)
    ·
     replace h := Sh.ite_pos hb h
     refine uC ?_
     refine uB (v := (errA e_1)) rfl rfl (wC rfl rfl) ?_
     refine uB (v := (errA e_1)) rfl rfl (uZ rfl rfl) ?_
     refine WpOps.nil ?_
     have hH : Holds H0 [.cell g_1 67 [(AV.rows 2 (List.map cGFile l_3.files)), .lit (.map (some gm_1)), .own (List.map cGTok l_3.told).length p_6, (iA l_3.includes)], .own 50 6 p_6 (List.map cGTok l_3.told), .many (mapP gm_1 l_3.macros)] _ := hH
     obtain rfl := Sh.some_inj h
     have e := hd_1 _ rfl
     subst e
     have h := hk_1
     obtain rfl := Sh.some_inj h
     refine WpC.ret ?_
     exact uH rfl (forceA_rfl rfl) ⟨p_6, rfl, hH⟩
    ·
     replace h := Sh.ite_neg hb h
     refine uI ?_
     refine ⟨_, uD _, ?_⟩
     refine uJ ?_
     obtain ⟨c_7, h⟩ := Sh.chk_some h
     refine uA 3 rfl c_7 ?_
     refine WpOps.nil ?_
     obtain rfl := Sh.some_inj h
     exact ⟨_, (uD _), ((i_4 + (1 : Int)), l_3), p_6, rfl, ⟨rfl, rfl, rfl, trivial⟩, hH⟩
  ·
   replace h := Sh.ite_neg hb h
   obtain rfl := Sh.some_inj h
   have e := hd_1 _ rfl
   subst e
   refine WpC.exit ?_
   exact ⟨(l_2, p_2), trivial, hk_1, hH⟩
 ·
  rintro ⟨l_4, p_7⟩ env H' ⟨h, hH⟩
  try dsimp only at h
  refine ⟨_, uD _, ?_⟩
  refine uC ?_
  refine uB (v := (errA (none : Option GFault))) rfl rfl (uZ rfl rfl) ?_
  refine WpOps.nil ?_
  have hH : Holds H0 [.cell g_1 67 [(AV.rows 2 (List.map cGFile l_4.files)), .lit (.map (some gm_1)), .own (List.map cGTok l_4.told).length p_7, (iA l_4.includes)], .own 50 6 p_7 (List.map cGTok l_4.told), .many (mapP gm_1 l_4.macros)] _ := hH
  obtain rfl := Sh.some_inj h
  refine WpC.ret ?_
  exact uH rfl (forceA_rfl rfl) ⟨p_7, rfl, hH⟩
theorem w_unit_file_branchesF {R : UnitR} (hR : UnitOk R) {H0 H : Heap} (hG : Glob H0) {g_1 : Nat} {gm_1 : Nat} {p_1 : Option (Nat × Nat)} {f_1 : GUnit_file} {run_1 : GUnit_run} {l_1 : List GBranch} {r : (Option GFault) × GUnit_run} (h : unit_file_branchesF R f_1 run_1 l_1 = some r) (hH : Holds H0 [.cell g_1 67 [(AV.rows 2 (List.map cGFile run_1.files)), .lit (.map (some gm_1)), .own (List.map cGTok run_1.told).length p_1, (iA run_1.includes)], .own 50 6 p_1 (List.map cGTok run_1.told), .many (mapP gm_1 run_1.macros)] H) : TCall Tryz.prog 95 [(.rop (cGUnit_file g_1 f_1)), (AV.rows 2 (List.map cGBranch l_1))] H (fun v H' => ∃ b : (Option (Nat × Nat)), v = ((errA r.1)) ∧ Holds H0 [.cell g_1 67 [(AV.rows 2 (List.map cGFile r.2.files)), .lit (.map (some gm_1)), .own (List.map cGTok r.2.told).length b, (iA r.2.includes)], .own 50 6 b (List.map cGTok r.2.told), .many (mapP gm_1 r.2.macros)] H') noE := by
 refine id (TCall.body Tryz.func95 rfl rfl ?_)
 refine uC ?_
 refine uB (v := (errA (none : Option GFault))) rfl rfl (uZ rfl rfl) ?_
 refine WpOps.nil ?_
 refine WpC.seq ?_
 refine uC ?_
 refine uA 2 rfl trivial ?_
 refine uN 10 (len_map _ _) ?_
 refine uA 1 rfl trivial ?_
 refine WpOps.nil ?_
 refine vA (fun x : (GUnit_run) × ((Option (Nat × Nat))) => []) (fun x H' => (unit_file_branches_j1 R) x.1 = some r ∧ Holds H0 [.cell g_1 67 [(AV.rows 2 (List.map cGFile x.1.files)), .lit (.map (some gm_1)), .own (List.map cGTok x.1.told).length x.2, (iA x.1.includes)], .own 50 6 x.2 (List.map cGTok x.1.told), .many (mapP gm_1 x.1.macros)] H') ?_ ?_
 ·
  obtain ⟨o_1, ho_1, hk_1⟩ := Sh.bind_some h
  refine uX ((unit_file_branches_b2 R) f_1 l_1) (fun (s : Int × GUnit_run) (a : (Option (Nat × Nat))) => [(0, (.rop (cGUnit_file g_1 f_1))), (9, (AV.rows 2 (List.map cGBranch l_1))), (10, (iA (l_1.length : Int))), (11, (iA s.1))]) (fun (s : Int × GUnit_run) (a : (Option (Nat × Nat))) H' => Holds H0 [.cell g_1 67 [(AV.rows 2 (List.map cGFile s.2.files)), .lit (.map (some gm_1)), .own (List.map cGTok s.2.told).length a, (iA s.2.includes)], .own 50 6 a (List.map cGTok s.2.told), .many (mapP gm_1 s.2.macros)] H') o_1 ((0 : Int), run_1) p_1 ho_1 ⟨rfl, rfl, rfl, rfl, trivial⟩ hH ?_
  rintro ⟨t11_1, l_2⟩ p_2 st_1 env H' h hd_1 hH
  refine uC ?_
  refine uA 1 rfl trivial ?_
  refine WpOps.nil ?_
  refine WpC.seq ?_
  refine uF rfl (fun hb => ?_) (fun hb => ?_)
  ·
   replace h := Sh.ite_pos hb h
   refine uI ?_
   refine ⟨_, uD _, ?_⟩
   refine WpC.seq ?_
   refine WpC.block ?_
   refine uC ?_
   obtain ⟨y_1, hy_1, h⟩ := Sh.bind_some h
   refine uB (v := (.rop (cGBranch y_1))) rfl rfl (uR cGBranch hy_1 rfl rfl rfl rfl (by kernel_rfl) (by decide)) ?_
   refine uB (v := (AV.agg (cGBranch y_1))) rfl rfl (uG rfl rfl rfl) ?_
   refine uE rfl rfl (vK (z' := cGBranch (GBranch.mk (0 : Int) ([] : List GLeaf))) rfl rfl (.cons (.refl _) (.cons (Sub.nil _) .nil)) hH fun g_2 H' hH => ?_)
   refine uE rfl rfl (uQ (cs' := (cGBranch y_1)) (v := (AV.agg (cGBranch y_1))) rfl rfl hH (i := 0) rfl rfl rfl rfl rfl rfl rfl fun H' hH => ?_)
   refine WpOps.nil ?_
   refine vO [.I, .I, .I, .I, .I, .I, .S, .I, .I, .E] [0, 1, 2, 3, 4, 5, 6, 7, 8, 9, 10, 11, 12, 13, 14] (by kernel_rfl) (by kernel_rfl) ?_
   refine uK 4 rfl trivial ?_
   refine uV (v := (AV.rows 4 (List.map cGLine f_1.lines))) rfl rfl rfl rfl (fun _ => uG rfl rfl rfl) ?_
   refine uK 1 rfl trivial ?_
   refine uT (v := (iA y_1.line_)) rfl rfl rfl rfl (Exact.load rfl rfl (hH.cell (i := 0) rfl) rfl rfl) ?_
   obtain ⟨y_2, hy_2, h⟩ := Sh.bind_some h
   refine uV (v := (.rop (cGLine y_2))) rfl rfl rfl rfl (fun _ => uR cGLine hy_2 rfl rfl rfl rfl (by kernel_rfl) (by decide)) ?_
   refine uV (v := (AV.agg (cGLine y_2))) rfl rfl rfl rfl (fun _ => uG rfl rfl rfl) ?_
   obtain ⟨r_1, hr_1, h⟩ := Sh.bind_some h
   have hH := hH.front (i := 3) rfl
   have hH := hH.front (i := 3) rfl
   have hH := hH.front (i := 3) rfl
   refine vM rfl rfl rfl rfl (vI 3 (V := fun b : (Option (Nat × Nat)) => (.tup [(bA r_1.1), (iA r_1.2)])) (A := fun b : (Option (Nat × Nat)) => [.cell g_1 67 [(AV.rows 2 (List.map cGFile l_2.files)), .lit (.map (some gm_1)), .own (List.map cGTok l_2.told).length b, (iA l_2.includes)], .own 50 6 b (List.map cGTok l_2.told), .many (mapP gm_1 l_2.macros)]) rfl rfl rfl hH (fun H1 hl hh => w_unit_file_holds (hG.le hl) hr_1 hh) fun p_3 H' hH => ?_)
   have hH : Holds H0 [.cell g_1 67 [(AV.rows 2 (List.map cGFile l_2.files)), .lit (.map (some gm_1)), .own (List.map cGTok l_2.told).length p_3, (iA l_2.includes)], .own 50 6 p_3 (List.map cGTok l_2.told), .many (mapP gm_1 l_2.macros), .cell g_2 180 (cGBranch y_1)] _ := hH
   have hH := hH.back 3
   have hH := hH.back 3
   have hH := hH.back 3
   have hH : Holds H0 [.cell g_2 180 (cGBranch y_1), .cell g_1 67 [(AV.rows 2 (List.map cGFile l_2.files)), .lit (.map (some gm_1)), .own (List.map cGTok l_2.told).length p_3, (iA l_2.includes)], .own 50 6 p_3 (List.map cGTok l_2.told), .many (mapP gm_1 l_2.macros)] _ := hH
   refine uK 5 rfl trivial ?_
   refine WpPi.nil ?_
   refine WpC.seq ?_
   refine uC ?_
   refine uA 2 rfl trivial ?_
   refine WpOps.nil ?_
   refine uF rfl (fun hb => ?_) (fun hb => ?_)
   ·
    replace h := Sh.ite_pos hb h
    refine uC ?_
    refine uA 2 rfl trivial ?_
    refine uB (v := (iA y_1.line_)) rfl rfl (Exact.load rfl rfl (hH.cell (i := 0) rfl) rfl rfl) ?_
    obtain ⟨r_2, hr_2, h⟩ := Sh.bind_some h
    refine uA 1 rfl trivial ?_
    refine uB (v := (errA r_2)) rfl rfl (Exact.call rfl rfl rfl (w_unit_file_wrong hr_2)) ?_
    refine uB (v := (errA r_2)) rfl rfl (uZ rfl rfl) ?_
    refine WpOps.nil ?_
    refine uP (i := 0) hH rfl (fun H' hH => ?_)
    have hH : Holds H0 [.cell g_1 67 [(AV.rows 2 (List.map cGFile l_2.files)), .lit (.map (some gm_1)), .own (List.map cGTok l_2.told).length p_3, (iA l_2.includes)], .own 50 6 p_3 (List.map cGTok l_2.told), .many (mapP gm_1 l_2.macros)] _ := hH
    obtain rfl := Sh.some_inj h
    have e := hd_1 _ rfl
    subst e
    have h := hk_1
    obtain rfl := Sh.some_inj h
    refine WpC.ret ?_
    exact uH rfl (forceA_rfl rfl) ⟨p_3, rfl, hH⟩
   ·
    replace h := Sh.ite_neg hb h
    refine uI ?_
    refine ⟨_, uD _, ?_⟩
    refine uC ?_
    refine uA 1 rfl trivial ?_
    refine WpOps.nil ?_
    refine uF rfl (fun hb => ?_) (fun hb => ?_)
    ·
     replace h := Sh.ite_pos hb h
     refine uC ?_
     refine uA 2 rfl trivial ?_
     refine uB (v := (AV.rows 3 (List.map cGLeaf y_1.items))) rfl rfl (Exact.load rfl rfl (hH.cell (i := 0) rfl) rfl rfl) ?_
     refine uN 38 (leaf_up _) ?_
     obtain ⟨r_3, hr_3, h⟩ := Sh.bind_some h
     have hH := hH.front (i := 3) rfl
     have hH := hH.front (i := 3) rfl
     have hH := hH.front (i := 3) rfl
     refine uE rfl rfl (vI 3 (V := fun b : (Option (Nat × Nat)) => ((errA r_3.1))) (A := fun b : (Option (Nat × Nat)) => [.cell g_1 67 [(AV.rows 2 (List.map cGFile r_3.2.files)), .lit (.map (some gm_1)), .own (List.map cGTok r_3.2.told).length b, (iA r_3.2.includes)], .own 50 6 b (List.map cGTok r_3.2.told), .many (mapP gm_1 r_3.2.macros)]) rfl rfl rfl hH (fun H1 hl hh => hR.w_unit_file_items (hG.le hl) hr_3 hh) fun p_4 H' hH => ?_)
     have hH : Holds H0 [.cell g_1 67 [(AV.rows 2 (List.map cGFile r_3.2.files)), .lit (.map (some gm_1)), .own (List.map cGTok r_3.2.told).length p_4, (iA r_3.2.includes)], .own 50 6 p_4 (List.map cGTok r_3.2.told), .many (mapP gm_1 r_3.2.macros), .cell g_2 180 (cGBranch y_1)] _ := hH
     have hH := hH.back 3
     have hH := hH.back 3
     have hH := hH.back 3
     have hH : Holds H0 [.cell g_2 180 (cGBranch y_1), .cell g_1 67 [(AV.rows 2 (List.map cGFile r_3.2.files)), .lit (.map (some gm_1)), .own (List.map cGTok r_3.2.told).length p_4, (iA r_3.2.includes)], .own 50 6 p_4 (List.map cGTok r_3.2.told), .many (mapP gm_1 r_3.2.macros)] _ := hH
     refine uB (v := (errA r_3.1)) rfl rfl (uZ rfl rfl) ?_
     refine WpOps.nil ?_
     refine uP (i := 0) hH rfl (fun H' hH => ?_)
     have hH : Holds H0 [.cell g_1 67 [(AV.rows 2 (List.map cGFile r_3.2.files)), .lit (.map (some gm_1)), .own (List.map cGTok r_3.2.told).length p_4, (iA r_3.2.includes)], .own 50 6 p_4 (List.map cGTok r_3.2.told), .many (mapP gm_1 r_3.2.macros)] _ := hH
     obtain rfl := Sh.some_inj h
     have e := hd_1 _ rfl
     subst e
     have h := hk_1
     obtain rfl := Sh.some_inj h
     refine WpC.ret ?_
     exact uH rfl (forceA_rfl rfl) ⟨p_4, rfl, hH⟩
    ·
     replace h := Sh.ite_neg hb h
     refine uI ?_
     refine ⟨_, uD _, ?_⟩
     refine uJ ?_
     obtain ⟨c_1, h⟩ := Sh.chk_some h
     refine uA 2 rfl c_1 ?_
     refine WpOps.nil ?_
     obtain ⟨_, hle_1, hH⟩ := hH.lose_ (i := 0) rfl
     obtain rfl := Sh.some_inj h
     exact ⟨_, hle_1, ((t11_1 + (1 : Int)), l_2), p_3, rfl, ⟨rfl, rfl, rfl, rfl, trivial⟩, hH⟩
  ·
   replace h := Sh.ite_neg hb h
   obtain rfl := Sh.some_inj h
   have e := hd_1 _ rfl
   subst e
   refine WpC.exit ?_
   exact ⟨(l_2, p_2), trivial, hk_1, hH⟩
 ·
  rintro ⟨l_3, p_5⟩ env H' ⟨h, hH⟩
  try dsimp only at h
  refine ⟨_, uD _, ?_⟩
  refine uC ?_
  refine uB (v := (errA (none : Option GFault))) rfl rfl (uZ rfl rfl) ?_
  refine WpOps.nil ?_
  have hH : Holds H0 [.cell g_1 67 [(AV.rows 2 (List.map cGFile l_3.files)), .lit (.map (some gm_1)), .own (List.map cGTok l_3.told).length p_5, (iA l_3.includes)], .own 50 6 p_5 (List.map cGTok l_3.told), .many (mapP gm_1 l_3.macros)] _ := hH
  obtain rfl := Sh.some_inj h
  refine WpC.ret ?_
  exact uH rfl (forceA_rfl rfl) ⟨p_5, rfl, hH⟩
end Go.Proofs.YtgmpeddopfnioaaGreatDoor
