/-
  The code computes what the plain functions say. Printed by a tool.
-/
import Derived.Test.YtghnfeflknfclaaDoorW
set_option linter.unusedVariables false
set_option linter.unusedSimpArgs false
set_option maxRecDepth 20000
set_option maxHeartbeats 8000000
namespace Go.Proofs.YtghnfeflknfclaaDoor
open Go Go.Vc Go.Sh
attribute [local irreducible] WpC WpOps WpPi WpO Exact TCall VEnds Sh.loopS DEnds

theorem w_macro_reader_params {H0 H : Heap} {r_1 : GMacro_reader} {m_1 : GMacro} {g_1 : Nat} {g_2 : Nat} {p_1 : Option (Nat × Nat)} (hH : Holds H0 [.cell g_1 81 (cGMacro_reader r_1), .cell g_2 44 [(sA m_1.name), (bA m_1.func), .own (List.map cS m_1.params).length p_1, (bA m_1.variadic), (AV.rows 6 (List.map cGTok m_1.body))], .own 9 1 p_1 (List.map cS m_1.params)] H) {r : Sum Int ((Unit) × GMacro_reader × GMacro)} (h : macro_reader_params r_1 m_1 = some r) : TCall Tryd.prog 60 [(.lit (.pointer (some ⟨g_1, 0, none⟩))), (.lit (.pointer (some ⟨g_2, 0, none⟩)))] H (fun v H' => ∃ x, r = Sum.inr x ∧ v = (.tup []) ∧ ∃ b : (Option (Nat × Nat)), Holds H0 [.cell g_1 81 (cGMacro_reader x.2.1), .cell g_2 44 [(sA x.2.2.name), (bA x.2.2.func), .own (List.map cS x.2.2.params).length b, (bA x.2.2.variadic), (AV.rows 6 (List.map cGTok x.2.2.body))], .own 9 1 b (List.map cS x.2.2.params)] H') (fun ch H' => ∃ e, r = Sum.inl e ∧ ch = pE e ∧ ∃ H2, Heap.le H2 H' ∧ ∃ y : {l : List AV // l.length = 1} × {l : List AV // l.length = 5}, Holds H0 [.cell g_1 81 y.1.1, .cell g_2 44 y.2.1] H2) := by
  refine TCall.body Tryd.func60 rfl rfl ?_
  refine WpC.seq ?_
  refine WpC.seqR ?_
  obtain ⟨r_2, hr_1, h⟩ := Sh.bind_some h
  refine WpOps.pn 1 rfl trivial ?_
  refine WpOps.consG rfl rfl (WpO.callT (v := (bA r_2.1)) rfl rfl rfl hH (i := 0) rfl (fun H1 hl hh => w_macro_reader_takes hh hr_1) fun H' hH => ?_)
  refine WpOps.nil ?_
  refine WpC.condB rfl (fun hb => ?_) (fun hb => ?_)
  ·
    replace h := Sh.ite_pos hb h
    obtain rfl := Sh.some_inj h
    refine WpC.ret ?_
    exact VEnds.ret0 rfl ⟨_, rfl, rfl, p_1, hH⟩
  ·
    replace h := Sh.ite_neg hb h
    refine WpC.skipD ?_
    refine ⟨_, Heap.le_refl _, ?_⟩
    refine WpC.seqB (fun x : (GMacro_reader × GMacro) × ((Option (Nat × Nat))) => [(0, (.lit (.pointer (some ⟨g_1, 0, none⟩))))]) (fun x H' => macro_reader_params_j1 x.1 = some r ∧ Holds H0 [.cell g_1 81 (cGMacro_reader x.1.1), .cell g_2 44 [(sA x.1.2.name), (bA x.1.2.func), .own (List.map cS x.1.2.params).length x.2, (bA x.1.2.variadic), (AV.rows 6 (List.map cGTok x.1.2.body))], .own 9 1 x.2 (List.map cS x.1.2.params)] H') ?_ ?_
    ·
      obtain ⟨o_1, ho_1, hk_1⟩ := Sh.bind_some h
      refine WpC.loopS macro_reader_params_b2 (fun (s : GMacro_reader × GMacro) (a : (Option (Nat × Nat))) => [(0, (.lit (.pointer (some ⟨g_1, 0, none⟩)))), (1, (.lit (.pointer (some ⟨g_2, 0, none⟩))))]) (fun (s : GMacro_reader × GMacro) (a : (Option (Nat × Nat))) H' => Holds H0 [.cell g_1 81 (cGMacro_reader s.1), .cell g_2 44 [(sA s.2.name), (bA s.2.func), .own (List.map cS s.2.params).length a, (bA s.2.variadic), (AV.rows 6 (List.map cGTok s.2.body))], .own 9 1 a (List.map cS s.2.params)] H') o_1 (r_2.2, m_1) p_1 ho_1 ⟨rfl, rfl, trivial⟩ hH ?_
      rintro ⟨r_3, m_2⟩ p_2 st_1 env H' h hd_1 hH
      refine WpC.block ?_
      refine WpC.seq ?_
      refine WpC.seqR ?_
      obtain ⟨r_4, hr_2, h⟩ := Sh.bind_some h
      refine WpOps.pn 1 rfl trivial ?_
      refine WpOps.consG rfl rfl (WpO.callT (v := (bA r_4.1)) rfl rfl rfl hH (i := 0) rfl (fun H1 hl hh => w_macro_reader_takes hh hr_2) fun H' hH => ?_)
      refine WpOps.nil ?_
      refine WpC.condB rfl (fun hb => ?_) (fun hb => ?_)
      ·
        replace h := Sh.ite_pos hb h
        refine WpC.seqR ?_
        refine WpOps.pn 3 rfl trivial ?_
        refine WpOps.consG rfl rfl (WpO.putT (cs' := [(sA m_2.name), (bA m_2.func), .own (List.map cS m_2.params).length p_2, (bA true), (AV.rows 6 (List.map cGTok m_2.body))]) (v := (bA true)) rfl rfl hH (i := 1) rfl rfl rfl rfl rfl rfl rfl fun H' hH => ?_)
        refine WpOps.nil ?_
        obtain rfl := Sh.some_inj h
        have e := hd_1 _ rfl
        subst e
        refine WpC.exit ?_
        exact ⟨((r_4.2, (GMacro.mk m_2.name m_2.func m_2.params true m_2.body)), p_2), ⟨rfl, trivial⟩, hk_1, hH⟩
      ·
        replace h := Sh.ite_neg hb h
        refine WpC.skipD ?_
        refine ⟨_, Heap.le_refl _, ?_⟩
        refine WpC.seqR ?_
        obtain ⟨r_5, hr_3, h⟩ := Sh.bind_some h
        refine WpOps.pn 1 rfl trivial ?_
        refine WpOps.consG rfl rfl (WpO.callFP 1 (V := fun (y : (List UInt8) × GMacro_reader) => (sA y.1)) rfl rfl rfl hH (fun H1 hl hh => w_macro_reader_word hh hr_3) (fun y_1 b H' hr hH => ?_) (fun er yy H2 H' hr hl hH => ?_))
        rotate_left
        ·
          subst hr
          replace h := Sh.orP_inl h
          obtain ⟨_, hle_1, hH⟩ := hH.lose_ (i := 2) rfl
          have hH := hH.front (i := 1) rfl
          have hH := hH.front (i := 1) rfl
          obtain rfl := Sh.some_inj h
          have e := hd_1 _ rfl
          subst e
          have h := hk_1
          obtain rfl := Sh.some_inj h
          exact VEnds.pan ⟨er, rfl, rfl, _, (Heap.le_trans hle_1 hl), (⟨_, by first | rfl | exact yy.2 | exact yy.1.2 | exact yy.2.2⟩, ⟨_, by first | rfl | exact yy.2 | exact yy.1.2 | exact yy.2.2⟩), hH⟩
        subst hr
        replace h := Sh.orP_inr h
        have hH : Holds H0 [.cell g_1 81 (cGMacro_reader y_1.2), .cell g_2 44 [(sA m_2.name), (bA m_2.func), .own (List.map cS m_2.params).length p_2, (bA m_2.variadic), (AV.rows 6 (List.map cGTok m_2.body))], .own 9 1 p_2 (List.map cS m_2.params)] _ := hH
        refine WpOps.pn 1 rfl trivial ?_
        refine WpOps.nil ?_
        refine WpC.seqR ?_
        refine WpOps.pn 2 rfl trivial ?_
        obtain ⟨b_1, g_3, h⟩ := Sh.bind_some h
        refine WpOps.cutB 9 24 (bA b_1) rfl ?_ ?_
        ·
          refine WpOps.pn 1 rfl trivial ?_
          refine WpOps.split 16 rfl (fun hb => ?_) (fun hb => ?_)
          ·
            replace g_3 := Sh.ite_pos hb g_3
            refine WpOps.pn 3 rfl trivial ?_
            refine WpOps.consE (v := (.own (List.map cS m_2.params).length p_2)) rfl rfl (Exact.load rfl rfl (hH.cell (i := 1) rfl) rfl rfl) ?_
            obtain ⟨r_6, hr_4, g_3⟩ := Sh.bind_some g_3
            refine WpOps.pn 1 rfl trivial ?_
            refine WpOps.consE (v := (bA r_6)) rfl rfl (Exact.peek (t := 20) (i := 2) hH rfl rfl (Exact.call rfl rfl rfl (w_slices_Contains_Lstring_string hr_4))) ?_
            refine WpOps.pn 2 rfl trivial ?_
            refine WpOps.nil ?_
            obtain rfl := Sh.some_inj g_3
            exact ⟨rfl, rfl⟩
          ·
            replace g_3 := Sh.ite_neg hb g_3
            refine WpOps.pn 8 rfl trivial ?_
            refine WpOps.nil ?_
            obtain rfl := Sh.some_inj g_3
            exact ⟨rfl, rfl⟩
        intro env
        obtain ⟨r_7, hr_5, h⟩ := Sh.bind_some h
        refine WpOps.consG rfl rfl (WpO.callPv (V := fun (y : Unit) => (.tup [])) rfl rfl rfl (w_macro_need hr_5) (fun y_2 hr => ?_) (fun er H' hr hl => ?_))
        rotate_left
        ·
          subst hr
          replace h := Sh.orP_inl h
          obtain ⟨_, hle_2, hH⟩ := hH.lose_ (i := 2) rfl
          have hH := hH.front (i := 1) rfl
          have hH := hH.front (i := 1) rfl
          obtain rfl := Sh.some_inj h
          have e := hd_1 _ rfl
          subst e
          have h := hk_1
          obtain rfl := Sh.some_inj h
          exact VEnds.pan ⟨er, rfl, rfl, _, (Heap.le_trans hle_2 hl), (⟨_, by first | rfl | exact yy.2 | exact yy.1.2 | exact yy.2.2⟩, ⟨_, by first | rfl | exact yy.2 | exact yy.1.2 | exact yy.2.2⟩), hH⟩
        subst hr
        replace h := Sh.orP_inr h
        refine WpOps.nil ?_
        refine WpC.seqR ?_
        refine WpOps.pn 4 rfl trivial ?_
        refine WpOps.consE (v := (.own (List.map cS m_2.params).length p_2)) rfl rfl (Exact.load rfl rfl (hH.cell (i := 1) rfl) rfl rfl) ?_
        refine WpOps.pn 1 rfl trivial ?_
        refine WpOps.consE (v := (AV.rows 1 (List.map cS ([y_1.1] : List (List UInt8))))) rfl rfl (Exact.litSlice rfl (by kernel_rfl)) ?_
        obtain ⟨c_1, h⟩ := Sh.chk_some h
        refine WpOps.consG rfl rfl (WpO.pushT cS m_2.params ([y_1.1] : List (List UInt8)) (i := 2) rfl ek42 hH rfl rfl rfl (.rows _) (fun y _ => one_cS y) (by simp) c_1 (by decide) fun p_3 H' hH => ?_)
        refine WpOps.pn 2 rfl trivial ?_
        refine WpOps.consG rfl rfl (WpO.putT (cs' := [(sA m_2.name), (bA m_2.func), .own (List.map cS (m_2.params ++ ([y_1.1] : List (List UInt8)))).length p_3, (bA m_2.variadic), (AV.rows 6 (List.map cGTok m_2.body))]) rfl rfl hH (i := 1) rfl rfl rfl rfl rfl rfl rfl fun H' hH => ?_)
        refine WpOps.nil ?_
        refine WpC.seqR ?_
        obtain ⟨r_8, hr_6, h⟩ := Sh.bind_some h
        refine WpOps.pn 1 rfl trivial ?_
        refine WpOps.consG rfl rfl (WpO.callT (v := (bA r_8.1)) rfl rfl rfl hH (i := 0) rfl (fun H1 hl hh => w_macro_reader_takes hh hr_6) fun H' hH => ?_)
        refine WpOps.pn 1 rfl trivial ?_
        refine WpOps.nil ?_
        refine WpC.condB rfl (fun hb => ?_) (fun hb => ?_)
        ·
          replace h := Sh.ite_pos hb h
          obtain rfl := Sh.some_inj h
          have e := hd_1 _ rfl
          subst e
          refine WpC.exit ?_
          exact ⟨((r_8.2, (GMacro.mk m_2.name m_2.func (m_2.params ++ ([y_1.1] : List (List UInt8))) m_2.variadic m_2.body)), p_3), ⟨rfl, trivial⟩, hk_1, hH⟩
        ·
          replace h := Sh.ite_neg hb h
          refine WpC.skipD ?_
          obtain rfl := Sh.some_inj h
          exact ⟨_, (Heap.le_refl _), (r_8.2, (GMacro.mk m_2.name m_2.func (m_2.params ++ ([y_1.1] : List (List UInt8))) m_2.variadic m_2.body)), p_3, rfl, ⟨rfl, rfl, trivial⟩, hH⟩
    ·
      rintro ⟨⟨r_9, m_3⟩, p_4⟩ env H' ⟨h, hH⟩
      try dsimp only at h
      refine WpC.regionD ?_
      obtain ⟨r_10, hr_7, h⟩ := Sh.bind_some h
      refine WpOps.pn 1 rfl trivial ?_
      refine WpOps.consG rfl rfl (WpO.callT (v := (bA r_10.1)) rfl rfl rfl hH (i := 0) rfl (fun H1 hl hh => w_macro_reader_takes hh hr_7) fun H' hH => ?_)
      obtain ⟨r_11, hr_8, h⟩ := Sh.bind_some h
      refine WpOps.consG rfl rfl (WpO.callPv (V := fun (y : Unit) => (.tup [])) rfl rfl rfl (w_macro_need hr_8) (fun y_3 hr => ?_) (fun er H' hr hl => ?_))
      rotate_left
      ·
        subst hr
        replace h := Sh.orP_inl h
        obtain ⟨_, hle_3, hH⟩ := hH.lose_ (i := 2) rfl
        have hH := hH.front (i := 1) rfl
        have hH := hH.front (i := 1) rfl
        obtain rfl := Sh.some_inj h
        exact ⟨_, Heap.le_refl _, VEnds.pan ⟨er, rfl, rfl, _, (Heap.le_trans hle_3 hl), (⟨_, by first | rfl | exact yy.2 | exact yy.1.2 | exact yy.2.2⟩, ⟨_, by first | rfl | exact yy.2 | exact yy.1.2 | exact yy.2.2⟩), hH⟩⟩
      subst hr
      replace h := Sh.orP_inr h
      refine WpOps.nil ?_
      refine ⟨_, (Heap.le_refl _), ?_⟩
      obtain rfl := Sh.some_inj h
      exact VEnds.end0 rfl ⟨_, rfl, rfl, p_4, hH⟩

theorem w_slices_Clone_Lapi_Tok_api_Tok {H0 : Heap} {l : List GTok} (hc : l.length * 56 ≤ 140737488355328) : TCall Tryd.prog 61 [.rows 6 (List.map cGTok l)] H0 (fun v H' => ∃ p, v = .own (List.map cGTok l).length p ∧ Vc.Own H0 38 6 (List.map cGTok l) (List.map cGTok l).length p H') noE := by
  refine TCall.body Tryd.func61 rfl rfl ?_
  refine WpC.seqR ?_
  refine WpOps.pn 1 rfl trivial ?_
  refine WpOps.nil ?_
  refine WpC.seq ?_
  refine WpC.seqR ?_
  refine WpOps.pn 1 rfl trivial ?_
  refine WpOps.consG rfl rfl (WpO.isNil (size := 6) (es := List.map cGTok l) rfl rfl rfl rfl fun b hb => ?_)
  refine WpOps.nil ?_
  refine WpC.condB rfl (fun hb2 => ?_) (fun hb2 => ?_)
  · subst hb2
    have e0 : List.map cGTok l = [] := hb rfl
    refine WpC.seqR ?_
    refine WpOps.pn 1 rfl trivial ?_
    refine WpOps.nil ?_
    refine WpC.ret ?_
    exact VEnds.ret1 rfl rfl ⟨none, by rw [e0]; rfl, by rw [e0]; exact Vc.Own.nil rfl⟩
  · refine WpC.skip ?_
    have hH : Holds H0 [] H0 := rfl
    refine WpC.seqR ?_
    refine WpOps.consG rfl rfl (WpO.litT (size := 6) cGTok ([] : List GTok) rfl rfl (by kernel_rfl) rfl hH fun g H' hH => ?_)
    refine WpOps.pn 1 rfl trivial ?_
    refine WpOps.consG rfl rfl (WpO.pushS cGTok ([] : List GTok) l (i := 0) rfl ek25 hH rfl rfl rfl (.rows _) (fun y _ => one_cGTok y) (by simpa using hc) (by decide) fun g2 c2 H' hH => ?_)
    refine WpOps.pn 1 rfl trivial ?_
    refine WpOps.nil ?_
    refine WpC.ret ?_
    obtain ⟨_, rfl, hO⟩ := hH
    exact VEnds.ret1 rfl rfl ⟨_, rfl, hO⟩

theorem w_macro_Param {H0 : Heap} {m_1 : GMacro} {name_1 : List UInt8} {r : Int} (h : macro_Param m_1 name_1 = some r) : TCall Tryd.prog 34 [(AV.agg (cGMacro m_1)), (sA name_1)] H0 (fun v H' => v = (iA r) ∧ H' = H0) noE := by
  refine id (TCall.body Tryd.func34 rfl rfl ?_)
  have hH : Holds H0 [] H0 := rfl
  refine WpC.seqR ?_
  refine WpOps.consG rfl rfl (WpO.boxT (v := (AV.agg (cGMacro m_1))) rfl rfl hH fun g_1 H' hH => ?_)
  refine WpOps.pn 1 rfl trivial ?_
  refine WpOps.nil ?_
  refine WpC.seq ?_
  refine WpC.seqR ?_
  refine WpOps.pn 1 rfl trivial ?_
  refine WpOps.consE (v := (bA m_1.variadic)) rfl rfl (Exact.load rfl rfl (hH.cell (i := 0) rfl) rfl rfl) ?_
  obtain ⟨b_1, g_2, h⟩ := Sh.bind_some h
  refine WpOps.cutB 4 10 (bA b_1) rfl ?_ ?_
  ·
    refine WpOps.pn 1 rfl trivial ?_
    refine WpOps.split 7 rfl (fun hb => ?_) (fun hb => ?_)
    ·
      replace g_2 := Sh.ite_pos hb g_2
      refine WpOps.pn 3 rfl trivial ?_
      refine WpOps.nil ?_
      obtain rfl := Sh.some_inj g_2
      exact ⟨rfl, rfl⟩
    ·
      replace g_2 := Sh.ite_neg hb g_2
      refine WpOps.pn 3 rfl trivial ?_
      refine WpOps.nil ?_
      obtain rfl := Sh.some_inj g_2
      exact ⟨rfl, rfl⟩
  intro env
  refine WpOps.nil ?_
  refine WpC.condB rfl (fun hb => ?_) (fun hb => ?_)
  ·
    replace h := Sh.ite_pos hb h
    refine WpC.seqR ?_
    refine WpOps.pn 1 rfl trivial ?_
    refine WpOps.consE (v := (AV.rows 1 (List.map cS m_1.params))) rfl rfl (Exact.load rfl rfl (hH.cell (i := 0) rfl) rfl rfl) ?_
    refine WpOps.pn 1 rfl trivial ?_
    refine WpOps.at 13 (len_map _ _) ?_
    refine WpOps.pn 1 rfl trivial ?_
    refine WpOps.nil ?_
    refine WpC.lose (i := 0) hH rfl (fun H' hH => ?_)
    obtain rfl := Sh.some_inj h
    refine WpC.ret ?_
    exact VEnds.ret1 rfl rfl ⟨rfl, hH⟩
  ·
    replace h := Sh.ite_neg hb h
    refine WpC.skipD ?_
    refine ⟨_, Heap.le_refl _, ?_⟩
    refine WpC.seqR ?_
    refine WpOps.pn 1 rfl trivial ?_
    refine WpOps.consE (v := (AV.rows 1 (List.map cS m_1.params))) rfl rfl (Exact.load rfl rfl (hH.cell (i := 0) rfl) rfl rfl) ?_
    obtain ⟨r_1, hr_1, h⟩ := Sh.bind_some h
    refine WpOps.pn 1 rfl trivial ?_
    refine WpOps.consE (v := (iA r_1)) rfl rfl (Exact.call rfl rfl rfl (w_slices_Index_Lstring_string hr_1)) ?_
    refine WpOps.pn 1 rfl trivial ?_
    refine WpOps.nil ?_
    refine WpC.lose (i := 0) hH rfl (fun H' hH => ?_)
    obtain rfl := Sh.some_inj h
    refine WpC.ret ?_
    exact VEnds.ret1 rfl rfl ⟨rfl, hH⟩

theorem w_macro_body_c1 {H0 : Heap} {t_1 : GTok} {r : Bool} (h : macro_body_c1 t_1 = some r) : TCall Tryd.prog 88 [(AV.agg (cGTok t_1))] H0 (fun v H' => v = (bA r) ∧ H' = H0) noE := by
  refine id (TCall.body Tryd.func88 rfl rfl ?_)
  have hH : Holds H0 [] H0 := rfl
  refine WpC.seqR ?_
  refine WpOps.consG rfl rfl (WpO.boxT (v := (AV.agg (cGTok t_1))) rfl rfl hH fun g_1 H' hH => ?_)
  refine WpOps.pn 1 rfl trivial ?_
  refine WpOps.nil ?_
  refine WpC.seqR ?_
  refine WpOps.pn 1 rfl trivial ?_
  refine WpOps.consE (v := (iA t_1.kind)) rfl rfl (Exact.load rfl rfl (hH.cell (i := 0) rfl) rfl rfl) ?_
  refine WpOps.pn 1 rfl trivial ?_
  obtain ⟨b_1, g_2, h⟩ := Sh.bind_some h
  refine WpOps.cutB 5 10 (bA b_1) rfl ?_ ?_
  ·
    refine WpOps.pn 1 rfl trivial ?_
    refine WpOps.split 6 rfl (fun hb => ?_) (fun hb => ?_)
    ·
      replace g_2 := Sh.ite_pos hb g_2
      refine WpOps.pn 1 rfl trivial ?_
      refine WpOps.consE (v := (sA t_1.text)) rfl rfl (Exact.load rfl rfl (hH.cell (i := 0) rfl) rfl rfl) ?_
      refine WpOps.pn 2 rfl trivial ?_
      refine WpOps.nil ?_
      obtain rfl := Sh.some_inj g_2
      exact ⟨rfl, rfl⟩
    ·
      replace g_2 := Sh.ite_neg hb g_2
      refine WpOps.pn 4 rfl trivial ?_
      refine WpOps.nil ?_
      obtain rfl := Sh.some_inj g_2
      exact ⟨rfl, rfl⟩
  intro env
  refine WpOps.pn 1 rfl trivial ?_
  refine WpOps.nil ?_
  refine WpC.lose (i := 0) hH rfl (fun H' hH => ?_)
  obtain rfl := Sh.some_inj h
  refine WpC.ret ?_
  exact VEnds.ret1 rfl rfl ⟨rfl, hH⟩

theorem w_slices_IndexFunc_Lapi_Tok_api_Tok__macro_body_c1 {H0 : Heap} {s_1 : List GTok} {r : Int} (h : slices_IndexFunc_Lapi_Tok_api_Tok__macro_body_c1 s_1 = some r) : TCall Tryd.prog 101 [(AV.rows 6 (List.map cGTok s_1)), (.clo (.func 88) [] [])] H0 (fun v H' => v = (iA r) ∧ H' = H0) noE := by
  refine id (TCall.body Tryd.func101 rfl rfl ?_)
  have hH : Holds H0 [] H0 := rfl
  refine WpC.seqR ?_
  refine WpOps.pn 1 rfl trivial ?_
  refine WpOps.nil ?_
  refine WpC.seq ?_
  refine WpC.seqR ?_
  refine WpOps.pn 2 rfl trivial ?_
  refine WpOps.at 7 (len_map _ _) ?_
  refine WpOps.pn 1 rfl trivial ?_
  refine WpOps.nil ?_
  refine WpC.blockK (fun x : (Unit) × (Unit) => []) (fun x H' => slices_IndexFunc_Lapi_Tok_api_Tok__macro_body_c1_j1 x.1 = some r ∧ Holds H0 [] H') ?_ ?_
  ·
    obtain ⟨o_1, ho_1, hk_1⟩ := Sh.bind_some h
    refine WpC.loopS (slices_IndexFunc_Lapi_Tok_api_Tok__macro_body_c1_b2 s_1) (fun (s : Int) (a : Unit) => [(0, (AV.rows 6 (List.map cGTok s_1))), (1, (.clo (.func 88) [] [])), (7, (iA (s_1.length : Int))), (8, (iA s))]) (fun (s : Int) (a : Unit) H' => Holds H0 [] H') o_1 (0 : Int) () ho_1 ⟨rfl, rfl, rfl, rfl, trivial⟩ hH ?_
    rintro t8_1 _ st_1 env H' h hd_1 hH
    refine WpC.seqR ?_
    refine WpOps.pn 1 rfl trivial ?_
    refine WpOps.nil ?_
    refine WpC.seq ?_
    refine WpC.condB rfl (fun hb => ?_) (fun hb => ?_)
    ·
      replace h := Sh.ite_pos hb h
      refine WpC.skipD ?_
      refine ⟨_, Heap.le_refl _, ?_⟩
      refine WpC.seq ?_
      refine WpC.block ?_
      refine WpC.seqR ?_
      refine WpOps.pn 2 rfl trivial ?_
      refine WpOps.nil ?_
      refine WpC.seqR ?_
      obtain ⟨y_1, hy_1, h⟩ := Sh.bind_some h
      refine WpOps.pn 3 rfl trivial ?_
      refine WpOps.consE (v := (.rop (cGTok y_1))) rfl rfl (Exact.ixr cGTok hy_1 rfl rfl rfl rfl (by kernel_rfl) (by decide)) ?_
      refine WpOps.consE (v := (AV.agg (cGTok y_1))) rfl rfl (Exact.load_rop rfl rfl rfl) ?_
      obtain ⟨r_1, hr_1, h⟩ := Sh.bind_some h
      refine WpOps.consE (v := (bA r_1)) rfl rfl (Exact.call_clo rfl rfl rfl rfl (w_macro_body_c1 hr_1)) ?_
      refine WpOps.nil ?_
      refine WpC.condB rfl (fun hb => ?_) (fun hb => ?_)
      ·
        replace h := Sh.ite_pos hb h
        refine WpC.seqR ?_
        refine WpOps.pn 2 rfl trivial ?_
        refine WpOps.nil ?_
        obtain rfl := Sh.some_inj h
        have e := hd_1 _ rfl
        subst e
        have h := hk_1
        obtain rfl := Sh.some_inj h
        refine WpC.ret ?_
        exact VEnds.ret1 rfl rfl ⟨rfl, hH⟩
      ·
        replace h := Sh.ite_neg hb h
        refine WpC.skipD ?_
        refine ⟨_, Heap.le_refl _, ?_⟩
        refine WpC.regionD ?_
        obtain ⟨c_1, h⟩ := Sh.chk_some h
        refine WpOps.pn 2 rfl c_1 ?_
        refine WpOps.nil ?_
        obtain rfl := Sh.some_inj h
        exact ⟨_, (Heap.le_refl _), (t8_1 + (1 : Int)), (), rfl, ⟨rfl, rfl, rfl, rfl, trivial⟩, hH⟩
    ·
      replace h := Sh.ite_neg hb h
      obtain rfl := Sh.some_inj h
      have e := hd_1 _ rfl
      subst e
      refine WpC.exit ?_
      exact ⟨((), ()), trivial, hk_1, hH⟩
  ·
    rintro ⟨_, _⟩ env H' ⟨h, hH⟩
    try dsimp only at h
    refine ⟨_, Heap.le_refl _, ?_⟩
    refine WpC.seqR ?_
    refine WpOps.pn 1 rfl trivial ?_
    refine WpOps.nil ?_
    obtain rfl := Sh.some_inj h
    refine WpC.ret ?_
    exact VEnds.ret1 rfl rfl ⟨rfl, hH⟩

theorem w_slices_ContainsFunc_Lapi_Tok_api_Tok__macro_body_c1 {H0 : Heap} {s_1 : List GTok} {r : Bool} (h : slices_ContainsFunc_Lapi_Tok_api_Tok__macro_body_c1 s_1 = some r) : TCall Tryd.prog 87 [(AV.rows 6 (List.map cGTok s_1)), (.clo (.func 88) [] [])] H0 (fun v H' => v = (bA r) ∧ H' = H0) noE := by
  refine id (TCall.body Tryd.func87 rfl rfl ?_)
  have hH : Holds H0 [] H0 := rfl
  refine WpC.seqR ?_
  refine WpOps.pn 1 rfl trivial ?_
  refine WpOps.nil ?_
  refine WpC.seqR ?_
  obtain ⟨r_1, hr_1, h⟩ := Sh.bind_some h
  refine WpOps.pn 2 rfl trivial ?_
  refine WpOps.consE (v := (iA r_1)) rfl rfl (Exact.call rfl rfl rfl (w_slices_IndexFunc_Lapi_Tok_api_Tok__macro_body_c1 hr_1)) ?_
  refine WpOps.pn 2 rfl trivial ?_
  refine WpOps.nil ?_
  obtain rfl := Sh.some_inj h
  refine WpC.ret ?_
  exact VEnds.ret1 rfl rfl ⟨rfl, hH⟩

theorem w_macro_body {H0 : Heap} {m_1 : GMacro} {r : Sum Int (Unit)} (h : macro_body m_1 = some r) : TCall Tryd.prog 62 [(AV.agg (cGMacro m_1))] H0 (fun v H' => ∃ x, r = Sum.inr x ∧ v = (.tup []) ∧ H' = H0) (fun ch H' => ∃ e, r = Sum.inl e ∧ ch = pE e ∧ Heap.le H0 H') := by
  refine id (TCall.body Tryd.func62 rfl rfl ?_)
  have hH : Holds H0 [] H0 := rfl
  refine WpC.seqR ?_
  refine WpOps.consG rfl rfl (WpO.boxT (v := (AV.agg (cGMacro m_1))) rfl rfl hH fun g_1 H' hH => ?_)
  refine WpOps.nil ?_
  refine WpC.seqR ?_
  refine WpOps.pn 1 rfl trivial ?_
  refine WpOps.consE (v := (AV.rows 6 (List.map cGTok m_1.body))) rfl rfl (Exact.load rfl rfl (hH.cell (i := 0) rfl) rfl rfl) ?_
  refine WpOps.pn 1 rfl trivial ?_
  refine WpOps.consG rfl rfl (WpO.boxT (v := (AV.agg (cGMacro_reader (GMacro_reader.mk m_1.body)))) rfl rfl hH fun g_2 H' hH => ?_)
  refine WpOps.pn 1 rfl trivial ?_
  refine WpOps.nil ?_
  refine WpC.seqR ?_
  obtain ⟨r_1, hr_1, h⟩ := Sh.bind_some h
  refine WpOps.pn 1 rfl trivial ?_
  refine WpOps.consE (v := (bA r_1)) rfl rfl (Exact.call rfl rfl rfl (w_macro_reader_sign (hH.cell (i := 0) rfl) hr_1)) ?_
  obtain ⟨r_2, hr_2, h⟩ := Sh.bind_some h
  refine WpOps.pn 1 rfl trivial ?_
  refine WpOps.consG rfl rfl (WpO.callPv (V := fun (y : Unit) => (.tup [])) rfl rfl rfl (w_macro_need hr_2) (fun y_1 hr => ?_) (fun er H' hr hl => ?_))
  rotate_left
  ·
    subst hr
    replace h := Sh.orP_inl h
    obtain rfl := Sh.some_inj h
    exact VEnds.pan ⟨er, rfl, rfl, Heap.le_trans hH.le hl⟩
  subst hr
  replace h := Sh.orP_inr h
  refine WpOps.nil ?_
  refine WpC.seqK (fun x : (GMacro_reader) × (Unit) => [(1, (.lit (.pointer (some ⟨g_1, 0, none⟩)))), (2, (.lit (.pointer (some ⟨g_2, 0, none⟩))))]) (fun x H' => (macro_body_j1 m_1) x.1 = some r ∧ Holds H0 [.cell g_2 81 (cGMacro_reader x.1), .cell g_1 44 (cGMacro m_1)] H') ?_ ?_
  ·
    refine WpC.seqR ?_
    refine WpOps.pn 1 rfl trivial ?_
    refine WpOps.consE (v := (AV.rows 6 (List.map cGTok m_1.body))) rfl rfl (Exact.load rfl rfl (hH.cell (i := 1) rfl) rfl rfl) ?_
    refine WpOps.pn 1 rfl trivial ?_
    refine WpOps.at 14 (len_map _ _) ?_
    refine WpOps.pn 1 rfl trivial ?_
    refine WpOps.nil ?_
    refine WpC.seqR ?_
    refine WpOps.pn 2 rfl trivial ?_
    refine WpOps.nil ?_
    refine WpC.condB rfl (fun hb => ?_) (fun hb => ?_)
    ·
      replace h := Sh.ite_pos hb h
      refine WpC.seqR ?_
      refine WpOps.pn 2 rfl trivial ?_
      refine WpOps.consE (v := (AV.rows 6 (List.map cGTok m_1.body))) rfl rfl (Exact.load rfl rfl (hH.cell (i := 1) rfl) rfl rfl) ?_
      obtain ⟨c_1, h⟩ := Sh.chk_some h
      obtain ⟨c_2, h⟩ := Sh.chk_some h
      refine WpOps.pn 2 rfl c_1 ?_
      refine WpOps.pn 1 rfl (show 0 ≤ ((m_1.body.length : Int) - (1 : Int)) ∧ True ∧ True ∧ (((m_1.body.length : Int) - (1 : Int))).toNat ≤ (List.map cGTok m_1.body).length ∧ True from ⟨(by omega), trivial, trivial, (by simp only [List.length_map]; omega), trivial⟩) ?_
      refine WpOps.at 22 (rows_drop 6 cGTok m_1.body _) ?_
      refine WpOps.pn 2 rfl trivial ?_
      refine WpOps.consG rfl rfl (WpO.putT (cs' := (cGMacro_reader (GMacro_reader.mk (m_1.body.drop (((m_1.body.length : Int) - (1 : Int))).toNat)))) (v := (AV.rows 6 (List.map cGTok (m_1.body.drop (((m_1.body.length : Int) - (1 : Int))).toNat)))) rfl rfl hH (i := 0) rfl rfl rfl rfl rfl rfl rfl fun H' hH => ?_)
      refine WpOps.nil ?_
      refine WpC.regionD ?_
      obtain ⟨r_3, hr_3, h⟩ := Sh.bind_some h
      refine WpOps.pn 1 rfl trivial ?_
      refine WpOps.consE (v := (bA r_3)) rfl rfl (Exact.call rfl rfl rfl (w_macro_reader_sign (hH.cell (i := 0) rfl) hr_3)) ?_
      obtain ⟨r_4, hr_4, h⟩ := Sh.bind_some h
      refine WpOps.pn 1 rfl trivial ?_
      refine WpOps.consG rfl rfl (WpO.callPv (V := fun (y : Unit) => (.tup [])) rfl rfl rfl (w_macro_need hr_4) (fun y_2 hr => ?_) (fun er H' hr hl => ?_))
      rotate_left
      ·
        subst hr
        replace h := Sh.orP_inl h
        obtain rfl := Sh.some_inj h
        exact ⟨_, Heap.le_refl _, VEnds.pan ⟨er, rfl, rfl, Heap.le_trans hH.le hl⟩⟩
      subst hr
      replace h := Sh.orP_inr h
      refine WpOps.nil ?_
      exact ⟨_, (Heap.le_refl _), ((GMacro_reader.mk (m_1.body.drop (((m_1.body.length : Int) - (1 : Int))).toNat)), ()), ⟨rfl, rfl, trivial⟩, h, hH⟩
    ·
      replace h := Sh.ite_neg hb h
      refine WpC.skipD ?_
      exact ⟨_, (Heap.le_refl _), ((GMacro_reader.mk m_1.body), ()), ⟨rfl, rfl, trivial⟩, h, hH⟩
  ·
    rintro ⟨r_5, _⟩ env H' ⟨h, hH⟩
    try dsimp only at h
    refine WpC.seq ?_
    refine WpC.seqR ?_
    refine WpOps.pn 2 rfl trivial ?_
    refine WpOps.consE (v := (AV.rows 6 (List.map cGTok m_1.body))) rfl rfl (Exact.load rfl rfl (hH.cell (i := 1) rfl) rfl rfl) ?_
    refine WpOps.pn 2 rfl trivial ?_
    refine WpOps.consG rfl rfl (WpO.putT (cs' := (cGMacro_reader (GMacro_reader.mk m_1.body))) (v := (AV.rows 6 (List.map cGTok m_1.body))) rfl rfl hH (i := 0) rfl rfl rfl rfl rfl rfl rfl fun H' hH => ?_)
    refine WpOps.nil ?_
    refine WpC.blockK (fun x : (Unit) × (Unit) => [(1, (.lit (.pointer (some ⟨g_1, 0, none⟩))))]) (fun x H' => (macro_body_j2 m_1) x.1 = some r ∧ Holds H0 [.cell g_1 44 (cGMacro m_1)] H') ?_ ?_
    ·
      obtain ⟨o_1, ho_1, hk_1⟩ := Sh.bind_some h
      refine WpC.loopS (macro_body_b3 m_1) (fun (s : GMacro_reader) (a : Unit) => [(1, (.lit (.pointer (some ⟨g_1, 0, none⟩)))), (2, (.lit (.pointer (some ⟨g_2, 0, none⟩))))]) (fun (s : GMacro_reader) (a : Unit) H' => Holds H0 [.cell g_2 81 (cGMacro_reader s), .cell g_1 44 (cGMacro m_1)] H') o_1 (GMacro_reader.mk m_1.body) () ho_1 ⟨rfl, rfl, trivial⟩ hH ?_
      rintro r_6 _ st_1 env H' h hd_1 hH
      refine WpC.seq ?_
      refine WpC.seqR ?_
      refine WpOps.pn 1 rfl trivial ?_
      refine WpOps.consE (v := (bA m_1.func)) rfl rfl (Exact.load rfl rfl (hH.cell (i := 1) rfl) rfl rfl) ?_
      obtain ⟨b_1, g_3, h⟩ := Sh.bind_some h
      refine WpOps.cutB 8 43 (bA b_1) rfl ?_ ?_
      ·
        refine WpOps.pn 1 rfl trivial ?_
        refine WpOps.split 36 rfl (fun hb => ?_) (fun hb => ?_)
        ·
          replace g_3 := Sh.ite_pos hb g_3
          refine WpOps.pn 3 rfl trivial ?_
          refine WpOps.consE (v := (AV.rows 6 (List.map cGTok r_6.l))) rfl rfl (Exact.load rfl rfl (hH.cell (i := 0) rfl) rfl rfl) ?_
          refine WpOps.pn 1 rfl trivial ?_
          refine WpOps.at 41 (len_map _ _) ?_
          refine WpOps.pn 2 rfl trivial ?_
          refine WpOps.nil ?_
          obtain rfl := Sh.some_inj g_3
          exact ⟨rfl, rfl⟩
        ·
          replace g_3 := Sh.ite_neg hb g_3
          refine WpOps.pn 7 rfl trivial ?_
          refine WpOps.nil ?_
          obtain rfl := Sh.some_inj g_3
          exact ⟨rfl, rfl⟩
      intro env
      refine WpOps.nil ?_
      refine WpC.condB rfl (fun hb => ?_) (fun hb => ?_)
      ·
        replace h := Sh.ite_pos hb h
        refine WpC.skipD ?_
        refine ⟨_, Heap.le_refl _, ?_⟩
        refine WpC.seqB (fun x : (Unit) × (Unit) => [(1, (.lit (.pointer (some ⟨g_1, 0, none⟩)))), (2, (.lit (.pointer (some ⟨g_2, 0, none⟩))))]) (fun x H' => (macro_body_j4 r_6) x.1 = some st_1 ∧ Holds H0 [.cell g_2 81 (cGMacro_reader r_6), .cell g_1 44 (cGMacro m_1)] H') ?_ ?_
        ·
          refine WpC.seqR ?_
          obtain ⟨r_7, hr_5, h⟩ := Sh.bind_some h
          refine WpOps.pn 1 rfl trivial ?_
          refine WpOps.consE (v := (bA r_7)) rfl rfl (Exact.call rfl rfl rfl (w_macro_reader_sign (hH.cell (i := 0) rfl) hr_5)) ?_
          refine WpOps.nil ?_
          refine WpC.condB rfl (fun hb => ?_) (fun hb => ?_)
          ·
            replace h := Sh.ite_pos hb h
            refine WpC.drawD [.I, .I, .I, .S, .I, .I, .I, .I, .I, .I, .S, .I, .I, .I, .I, .I, .I, .S, .I, .I, .I, .S, .I, .I, .I, .I, .I, .I, .E] [0, 1, 2, 3, 4, 5, 6, 7, 8, 9, 10, 11, 12, 13, 14, 15, 16, 17, 18, 19, 20, 21, 22, 23, 24, 25, 26, 27, 28] (by kernel_rfl) (by kernel_rfl) ?_
            refine WpPi.pn 3 rfl trivial ?_
            refine WpPi.consS (v := (AV.rows 6 (List.map cGTok r_6.l))) rfl rfl rfl rfl (Exact.load rfl rfl (hH.cell (i := 0) rfl) rfl rfl) ?_
            refine WpPi.pn 1 rfl trivial ?_
            refine WpPi.at 58 (len_map _ _) ?_
            refine WpPi.pn 1 rfl trivial ?_
            obtain ⟨b_2, g_4, h⟩ := Sh.bind_some h
            refine WpPi.cutB 10 69 (bA b_2) rfl ?_ ?_
            ·
              refine WpPi.pn 1 rfl trivial ?_
              refine WpPi.split 60 rfl (fun hb => ?_) (fun hb => ?_)
              ·
                replace g_4 := Sh.ite_pos hb g_4
                refine WpPi.pn 3 rfl trivial ?_
                refine WpPi.consS (v := (AV.rows 6 (List.map cGTok r_6.l))) rfl rfl rfl rfl (Exact.load rfl rfl (hH.cell (i := 0) rfl) rfl rfl) ?_
                obtain ⟨y_3, hy_1, g_4⟩ := Sh.bind_some g_4
                refine WpPi.consI (v := (.rop (cGTok y_3))) rfl rfl rfl rfl (fun _ => Exact.ixr cGTok hy_1 rfl rfl rfl rfl (by kernel_rfl) (by decide)) ?_
                refine WpPi.pn 1 rfl trivial ?_
                refine WpPi.consI (v := (iA y_3.kind)) rfl rfl rfl rfl (fun _ => Exact.load_rop rfl rfl rfl) ?_
                refine WpPi.pn 2 rfl trivial ?_
                refine WpPi.nil ?_
                obtain rfl := Sh.some_inj g_4
                exact ⟨rfl, rfl⟩
              ·
                replace g_4 := Sh.ite_neg hb g_4
                refine WpPi.pn 3 rfl trivial ?_
                refine WpPi.skip rfl rfl rfl ?_
                refine WpPi.skip rfl rfl rfl ?_
                refine WpPi.pn 1 rfl trivial ?_
                refine WpPi.skip rfl rfl rfl ?_
                refine WpPi.pn 2 rfl trivial ?_
                refine WpPi.nil ?_
                obtain rfl := Sh.some_inj g_4
                exact ⟨rfl, rfl⟩
            intro env
            obtain ⟨b_3, g_5, h⟩ := Sh.bind_some h
            refine WpPi.cutB 12 81 (bA b_3) rfl ?_ ?_
            ·
              refine WpPi.pn 1 rfl trivial ?_
              refine WpPi.split 70 rfl (fun hb => ?_) (fun hb => ?_)
              ·
                replace g_5 := Sh.ite_pos hb g_5
                refine WpPi.consS (v := (AV.agg (cGMacro m_1))) rfl rfl rfl rfl (Exact.load rfl rfl (hH.cell (i := 1) rfl) rfl rfl) ?_
                refine WpPi.pn 3 rfl trivial ?_
                refine WpPi.consS (v := (AV.rows 6 (List.map cGTok r_6.l))) rfl rfl rfl rfl (Exact.load rfl rfl (hH.cell (i := 0) rfl) rfl rfl) ?_
                obtain ⟨y_4, hy_2, g_5⟩ := Sh.bind_some g_5
                refine WpPi.consI (v := (.rop (cGTok y_4))) rfl rfl rfl rfl (fun _ => Exact.ixr cGTok hy_2 rfl rfl rfl rfl (by kernel_rfl) (by decide)) ?_
                refine WpPi.pn 1 rfl trivial ?_
                refine WpPi.consI (v := (sA y_4.text)) rfl rfl rfl rfl (fun _ => Exact.load_rop rfl rfl rfl) ?_
                obtain ⟨r_8, hr_6, g_5⟩ := Sh.bind_some g_5
                refine WpPi.consI (v := (iA r_8)) rfl rfl rfl rfl (fun _ => Exact.call rfl rfl rfl (w_macro_Param hr_6)) ?_
                refine WpPi.pn 2 rfl trivial ?_
                refine WpPi.nil ?_
                obtain rfl := Sh.some_inj g_5
                exact ⟨rfl, rfl⟩
              ·
                replace g_5 := Sh.ite_neg hb g_5
                refine WpPi.skip rfl rfl rfl ?_
                refine WpPi.pn 3 rfl trivial ?_
                refine WpPi.skip rfl rfl rfl ?_
                refine WpPi.skip rfl rfl rfl ?_
                refine WpPi.pn 1 rfl trivial ?_
                refine WpPi.skip rfl rfl rfl ?_
                refine WpPi.skip rfl rfl rfl ?_
                refine WpPi.pn 2 rfl trivial ?_
                refine WpPi.nil ?_
                obtain rfl := Sh.some_inj g_5
                exact ⟨rfl, rfl⟩
            intro env
            obtain ⟨r_9, hr_7, h⟩ := Sh.bind_some h
            refine WpPi.consP rfl rfl rfl rfl (WpO.callPv (V := fun (y : Unit) => (.tup [])) rfl rfl rfl (w_macro_need hr_7) (fun y_5 hr => ?_) (fun er H' hr hl => ?_))
            rotate_left
            ·
              subst hr
              replace h := Sh.orP_inl h
              intro env'
              obtain rfl := Sh.some_inj h
              have e := hd_1 _ rfl
              subst e
              have h := hk_1
              obtain rfl := Sh.some_inj h
              exact ⟨_, Heap.le_refl _, VEnds.pan ⟨er, rfl, rfl, Heap.le_trans hH.le hl⟩⟩
            subst hr
            replace h := Sh.orP_inr h
            refine WpPi.nil ?_
            exact ⟨_, (Heap.le_refl _), ((), ()), ⟨rfl, rfl, trivial⟩, h, hH⟩
          ·
            replace h := Sh.ite_neg hb h
            refine WpC.skipD ?_
            exact ⟨_, (Heap.le_refl _), ((), ()), ⟨rfl, rfl, trivial⟩, h, hH⟩
        ·
          rintro ⟨_, _⟩ env H' ⟨h, hH⟩
          try dsimp only at h
          refine WpC.regionD ?_
          refine WpOps.pn 4 rfl trivial ?_
          refine WpOps.consE (v := (AV.rows 6 (List.map cGTok r_6.l))) rfl rfl (Exact.load rfl rfl (hH.cell (i := 0) rfl) rfl rfl) ?_
          obtain ⟨c_3, h⟩ := Sh.chk_some h
          refine WpOps.pn 1 rfl (show 0 ≤ (1 : Int) ∧ True ∧ True ∧ ((1 : Int)).toNat ≤ (List.map cGTok r_6.l).length ∧ True from ⟨(by omega), trivial, trivial, (by simp only [List.length_map]; omega), trivial⟩) ?_
          refine WpOps.at 49 (rows_drop 6 cGTok r_6.l _) ?_
          refine WpOps.pn 2 rfl trivial ?_
          refine WpOps.consG rfl rfl (WpO.putT (cs' := (cGMacro_reader (GMacro_reader.mk (r_6.l.drop ((1 : Int)).toNat)))) (v := (AV.rows 6 (List.map cGTok (r_6.l.drop ((1 : Int)).toNat)))) rfl rfl hH (i := 0) rfl rfl rfl rfl rfl rfl rfl fun H' hH => ?_)
          refine WpOps.nil ?_
          obtain rfl := Sh.some_inj h
          exact ⟨_, (Heap.le_refl _), (GMacro_reader.mk (r_6.l.drop ((1 : Int)).toNat)), (), rfl, ⟨rfl, rfl, trivial⟩, hH⟩
      ·
        replace h := Sh.ite_neg hb h
        refine WpC.lose (i := 0) hH rfl (fun H' hH => ?_)
        obtain rfl := Sh.some_inj h
        have e := hd_1 _ rfl
        subst e
        refine WpC.exit ?_
        exact ⟨((), ()), ⟨rfl, trivial⟩, hk_1, hH⟩
    ·
      rintro ⟨_, _⟩ env H' ⟨h, hH⟩
      try dsimp only at h
      refine ⟨_, Heap.le_refl _, ?_⟩
      refine WpC.regionD ?_
      refine WpOps.pn 1 rfl trivial ?_
      refine WpOps.consE (v := (bA m_1.variadic)) rfl rfl (Exact.load rfl rfl (hH.cell (i := 0) rfl) rfl rfl) ?_
      obtain ⟨b_4, g_6, h⟩ := Sh.bind_some h
      refine WpOps.cutB 6 90 (bA b_4) rfl ?_ ?_
      ·
        refine WpOps.pn 1 rfl trivial ?_
        refine WpOps.split 85 rfl (fun hb => ?_) (fun hb => ?_)
        ·
          replace g_6 := Sh.ite_pos hb g_6
          refine WpOps.pn 5 rfl trivial ?_
          refine WpOps.nil ?_
          obtain rfl := Sh.some_inj g_6
          exact ⟨rfl, rfl⟩
        ·
          replace g_6 := Sh.ite_neg hb g_6
          refine WpOps.pn 1 rfl trivial ?_
          refine WpOps.consE (v := (AV.rows 6 (List.map cGTok m_1.body))) rfl rfl (Exact.load rfl rfl (hH.cell (i := 0) rfl) rfl rfl) ?_
          obtain ⟨r_10, hr_8, g_6⟩ := Sh.bind_some g_6
          refine WpOps.consE (v := (bA r_10)) rfl rfl (Exact.call rfl rfl rfl (w_slices_ContainsFunc_Lapi_Tok_api_Tok__macro_body_c1 hr_8)) ?_
          refine WpOps.pn 2 rfl trivial ?_
          refine WpOps.nil ?_
          obtain rfl := Sh.some_inj g_6
          exact ⟨rfl, rfl⟩
      intro env
      obtain ⟨r_11, hr_9, h⟩ := Sh.bind_some h
      refine WpOps.consG rfl rfl (WpO.callPv (V := fun (y : Unit) => (.tup [])) rfl rfl rfl (w_macro_need hr_9) (fun y_6 hr => ?_) (fun er H' hr hl => ?_))
      rotate_left
      ·
        subst hr
        replace h := Sh.orP_inl h
        obtain rfl := Sh.some_inj h
        exact ⟨_, Heap.le_refl _, VEnds.pan ⟨er, rfl, rfl, Heap.le_trans hH.le hl⟩⟩
      subst hr
      replace h := Sh.orP_inr h
      refine WpOps.nil ?_
      obtain ⟨_, hle_1, hH⟩ := hH.lose_ (i := 0) rfl
      refine ⟨_, hle_1, ?_⟩
      obtain rfl := Sh.some_inj h
      exact VEnds.end0 rfl ⟨_, rfl, rfl, hH⟩

/-- the deferred function, when nothing is wrong -/
theorem d_idle {H : Heap} {gm ge : Nat} : DCall Tryd.prog 55 [.lit (.pointer (some ⟨gm, 0, none⟩)), .lit (.pointer (some ⟨ge, 0, none⟩))] H .returning (fun u H2 => u = .returning ∧ H2 = H) := by
  refine DCall.body Tryd.func55 rfl rfl rfl rfl rfl rfl rfl rfl ?_
  refine WpC.block ?_
  refine WpC.seqR ?_
  refine WpOps.consE (v := bA true) rfl rfl (Exact.ifaceNil rfl rfl rfl (.inl ⟨rfl, rfl⟩)) ?_
  refine WpOps.nil ?_
  refine WpC.condT rfl ?_
  refine WpC.region ?_
  refine WpOps.pn 1 rfl trivial ?_
  exact WpOps.nil ⟨.inl rfl, rfl, rfl⟩
/-- .. when something is: it is told -/
theorem d_pan {H0 H : Heap} {gm ge : Nat} {cs es : List AV} {er : Int} (hc : cs.length = 5) (he : es.length = 1) (hH : Holds H0 [.cell gm 44 cs, .cell ge 32 es] H) : DCall Tryd.prog 55 [.lit (.pointer (some ⟨gm, 0, none⟩)), .lit (.pointer (some ⟨ge, 0, none⟩))] H (.panicking (pE er)) (fun u H2 => settle u = .returning ∧ Holds H0 [.cell gm 44 (cGMacro (GMacro.mk ([] : List UInt8) false ([] : List (List UInt8)) false ([] : List GTok))), .cell ge 32 [iA er]] H2) := by
  match cs, hc with
  | [c1, c2, c3, c4, c5], _ =>
  match es, he with
  | [e1], _ =>
  refine DCall.body Tryd.func55 rfl rfl rfl rfl rfl rfl rfl rfl ?_
  refine WpC.block ?_
  refine WpC.seqR ?_
  refine WpOps.consE (v := bA false) rfl rfl (Exact.ifaceNil rfl rfl rfl (.inr ⟨rfl, _, _, rfl⟩)) ?_
  refine WpOps.nil ?_
  refine WpC.condF rfl ?_
  refine WpC.seqR ?_
  refine WpOps.consE (v := .lit (.tuple #[.agg #[.int .i64 er], .bool true])) rfl rfl (Exact.assertS rfl rfl rfl) ?_
  refine WpOps.consE (v := bA true) rfl rfl (Exact.extractL rfl rfl rfl) ?_
  refine WpOps.consE (v := .lit (.agg #[.int .i64 er])) rfl rfl (Exact.extractL rfl rfl rfl) ?_
  refine WpOps.nil ?_
  refine WpC.condT rfl ?_
  refine WpC.sub (t := 10) (u := .agg [iA er]) (Sub.litAgg _) ?_
  refine WpC.seqR ?_
  refine WpOps.consG rfl rfl (WpO.allocT (z := [iA 0]) rfl rfl hH fun gx H' hH => ?_)
  refine WpOps.consG rfl rfl (WpO.putT (cs' := [iA er]) (v := .agg [iA er]) rfl rfl hH (i := 0) rfl rfl rfl rfl rfl rfl rfl fun H' hH => ?_)
  refine WpOps.nil ?_
  refine WpC.drawDI (fun H => H gx = some (.cells 78 [iA er])) [.I, .I, .I, .E, .E] [0, 1, 2, 3, 4] (by kernel_rfl) (by kernel_rfl) (hH.cell (i := 0) rfl) ?_
  refine WpPi.pn 2 rfl trivial ?_
  refine WpPi.consV (v := iA er) rfl rfl rfl rfl (fun _ hi => Exact.load rfl rfl hi rfl rfl) ?_
  refine WpPi.consF rfl rfl rfl rfl (WpO.putU (cs' := cGMacro (GMacro.mk ([] : List UInt8) false ([] : List (List UInt8)) false ([] : List GTok))) rfl rfl hH (i := 1) rfl rfl rfl rfl rfl rfl rfl (.cons (.refl _) (.cons (.refl _) (.cons (Sub.nil _) (.cons (.refl _) (.cons (Sub.nil _) .nil))))) fun H' hH => ⟨hH.cell (i := 0) rfl, ?_⟩)
  refine WpPi.consF rfl rfl rfl rfl (WpO.putT (cs' := [iA er]) (v := iA er) rfl rfl hH (i := 2) rfl rfl rfl rfl rfl rfl rfl fun H' hH => ⟨hH.cell (i := 0) rfl, ?_⟩)
  refine WpPi.nil ?_
  obtain ⟨_, hle, hH⟩ := hH.lose_ (i := 0) rfl
  exact ⟨_, hle, .inl rfl, rfl, hH⟩

theorem w_macro_Define {H0 : Heap} {l : List GTok} {rr : GMacro × Int} (h : macro_Define l = some rr) : TCall Tryd.prog 32 [(AV.rows 6 (List.map cGTok l))] H0 (fun v H' => v = (.tup [(AV.agg (cGMacro rr.1)), (iA rr.2)]) ∧ H' = H0) noE := by
  unfold macro_Define at h
  obtain ⟨r, hr0, hr1⟩ := Sh.bind_some h
  clear h; have h := hr0
  refine TCall.up (TCall.bodyD (g := 55) Tryd.func32 rfl rfl rfl rfl rfl rfl rfl rfl rfl rfl rfl ?_)
  have hH : Holds H0 [] H0 := rfl
  refine WpC.region ?_
  refine WpOps.consG rfl rfl (WpO.allocU (z' := [(sA ([] : List UInt8)), (bA false), .own 0 none, (bA false), (AV.rows 6 (List.map cGTok ([] : List GTok)))]) rfl rfl (.cons (.refl _) (.cons (.refl _) (.cons (.refl _) (.cons (.refl _) (.cons (Sub.nil _) .nil))))) hH fun gm H' hH => ?_)
  refine WpOps.consG rfl rfl (WpO.allocT (z := [iA 0]) rfl rfl hH fun ge H' hH => ?_)
  have hH := hH.back 1
  refine WpOps.nil ⟨rfl, _, _, rfl, rfl, ?_⟩
  have hH := hH.nil 9 1
  refine WpC.mono (Q := DEnds (fun env H' => env 2 = .lit (.pointer (some ⟨gm, 0, none⟩)) ∧ env 3 = .lit (.pointer (some ⟨ge, 0, none⟩)) ∧ ∃ x, r = Sum.inr x ∧ Holds H0 [.cell gm 44 (cGMacro x.2.1), .cell ge 32 [iA x.2.2]] H') (fun ch env H' => env 2 = .lit (.pointer (some ⟨gm, 0, none⟩)) ∧ env 3 = .lit (.pointer (some ⟨ge, 0, none⟩)) ∧ ∃ e, r = Sum.inl e ∧ ch = pE e ∧ ∃ H2, Heap.le H2 H' ∧ ∃ y : {l : List AV // l.length = 5} × {l : List AV // l.length = 1}, Holds H0 [.cell gm 44 y.1.1, .cell ge 32 y.2.1] H2)) ?_ ?_
  rotate_left
  · have rv : ∀ (env : Env) (H2 : Heap) (m : GMacro) (e : Int), env 2 = .lit (.pointer (some ⟨gm, 0, none⟩)) → env 3 = .lit (.pointer (some ⟨ge, 0, none⟩)) → Holds H0 [.cell gm 44 (cGMacro m), .cell ge 32 [iA e]] H2 → ResV Tryd.prog env H2 Tryd.f32.results.toList [(AV.agg (cGMacro m)), iA e] := fun env H2 m e h1 h2 h3 => .cell h1 (h3.cell (i := 0) rfl) rfl rfl (.cell h2 (h3.cell (i := 1) rfl) rfl rfl .nil)
    intro ee env2 H2 q
    cases ee with
    | normal =>
      obtain ⟨q1, q2, x, rfl, hH⟩ := DEnds.un_normal q
      replace hr1 := Sh.orP_inr hr1
      refine d_idle.mono fun u H2 ⟨hu, hE⟩ => ?_
      subst hE
      refine ⟨by rw [hu]; rfl, _, rv env2 _ _ _ q1 q2 hH, ?_⟩
      obtain ⟨_, hle1, hH⟩ := hH.lose_ (i := 0) rfl
      obtain ⟨_, hle2, hH⟩ := hH.lose_ (i := 0) rfl
      exact ⟨_, _, Up.drop (Heap.le_trans hle2 hle1) _, by rw [← Sh.some_inj hr1]; rfl, hH⟩
    | ret =>
      obtain ⟨q1, q2, x, rfl, hH⟩ := DEnds.un_ret q
      replace hr1 := Sh.orP_inr hr1
      refine d_idle.mono fun u H2 ⟨hu, hE⟩ => ?_
      subst hE
      refine ⟨by rw [hu]; rfl, _, rv env2 _ _ _ q1 q2 hH, ?_⟩
      obtain ⟨_, hle1, hH⟩ := hH.lose_ (i := 0) rfl
      obtain ⟨_, hle2, hH⟩ := hH.lose_ (i := 0) rfl
      exact ⟨_, _, Up.drop (Heap.le_trans hle2 hle1) _, by rw [← Sh.some_inj hr1]; rfl, hH⟩
    | panic ch =>
      obtain ⟨q1, q2, er, rfl, rfl, H3, hle, y, hH⟩ := DEnds.un_panic q
      replace hr1 := Sh.orP_inl hr1
      refine DCall.drop hle ?_
      refine (d_pan y.1.2 y.2.2 hH).mono fun u H2 ⟨hu, hH⟩ => ?_
      refine ⟨hu, _, rv env2 _ _ _ q1 q2 hH, ?_⟩
      obtain ⟨_, hle1, hH⟩ := hH.lose_ (i := 0) rfl
      obtain ⟨_, hle2, hH⟩ := hH.lose_ (i := 0) rfl
      exact ⟨_, _, Up.drop (Heap.le_trans hle2 hle1) _, by rw [← Sh.some_inj hr1]; rfl, hH⟩
    | exit id => exact (DEnds.un_exit q).elim
    | goto l => exact (DEnds.un_goto q).elim
    | outgrown => exact (DEnds.un_outgrown q).elim
  refine WpC.seqR ?_
  refine WpOps.pn 2 rfl trivial ?_
  refine WpOps.consG rfl rfl (WpO.boxT (v := (AV.agg (cGMacro_reader (GMacro_reader.mk l)))) rfl rfl hH fun g_1 H' hH => ?_)
  refine WpOps.pn 1 rfl trivial ?_
  refine WpOps.nil ?_
  refine WpC.seqR ?_
  obtain ⟨r_1, hr_1, h⟩ := Sh.bind_some h
  refine WpOps.pn 1 rfl trivial ?_
  refine WpOps.consG rfl rfl (WpO.callFP 1 (V := fun (y : (List UInt8) × GMacro_reader) => (sA y.1)) rfl rfl rfl hH (fun H1 hl hh => w_macro_reader_word hh hr_1) (fun y_1 b H' hr hH => ?_) (fun er yy H2 H' hr hl hH => ?_))
  rotate_left
  ·
    subst hr
    replace h := Sh.orP_inl h
    obtain ⟨_, hle_1, hH⟩ := hH.lose_ (i := 0) rfl
    obtain ⟨_, hle_2, hH⟩ := hH.lose_ (i := 0) rfl
    have hH := hH.front (i := 1) rfl
    have hH := hH.front (i := 1) rfl
    obtain rfl := Sh.some_inj h
    exact DEnds.pan ⟨rfl, rfl, er, rfl, rfl, _, (Heap.le_trans hle_2 (Heap.le_trans hle_1 hl)), (⟨_, by first | rfl | exact yy.2 | exact yy.1.2 | exact yy.2.2⟩, ⟨_, by first | rfl | exact yy.2 | exact yy.1.2 | exact yy.2.2⟩), hH⟩
  subst hr
  replace h := Sh.orP_inr h
  have hH : Holds H0 [.cell g_1 81 (cGMacro_reader y_1.2), .own 9 1 none (List.map cS ([] : List (List UInt8))), .cell gm 44 [(sA ([] : List UInt8)), (bA false), .own (List.map cS ([] : List (List UInt8))).length none, (bA false), (AV.rows 6 (List.map cGTok ([] : List GTok)))], .cell ge 32 (cI (0 : Int))] _ := hH
  refine WpOps.pn 1 rfl trivial ?_
  refine WpOps.consG rfl rfl (WpO.putT (cs' := [(sA y_1.1), (bA false), .own (List.map cS ([] : List (List UInt8))).length none, (bA false), (AV.rows 6 (List.map cGTok ([] : List GTok)))]) (v := (sA y_1.1)) rfl rfl hH (i := 2) rfl rfl rfl rfl rfl rfl rfl fun H' hH => ?_)
  refine WpOps.nil ?_
  refine WpC.seqR ?_
  refine WpOps.pn 1 rfl trivial ?_
  refine WpOps.consE (v := (sA y_1.1)) rfl rfl (Exact.load rfl rfl (hH.cell (i := 2) rfl) rfl rfl) ?_
  refine WpOps.pn 1 rfl trivial ?_
  obtain ⟨b_1, g_2, h⟩ := Sh.bind_some h
  refine WpOps.cutB 5 19 (bA b_1) rfl ?_ ?_
  ·
    refine WpOps.pn 1 rfl trivial ?_
    refine WpOps.split 15 rfl (fun hb => ?_) (fun hb => ?_)
    ·
      replace g_2 := Sh.ite_pos hb g_2
      refine WpOps.pn 1 rfl trivial ?_
      refine WpOps.consE (v := (sA y_1.1)) rfl rfl (Exact.load rfl rfl (hH.cell (i := 2) rfl) rfl rfl) ?_
      refine WpOps.pn 2 rfl trivial ?_
      refine WpOps.nil ?_
      obtain rfl := Sh.some_inj g_2
      exact ⟨rfl, rfl⟩
    ·
      replace g_2 := Sh.ite_neg hb g_2
      refine WpOps.pn 4 rfl trivial ?_
      refine WpOps.nil ?_
      obtain rfl := Sh.some_inj g_2
      exact ⟨rfl, rfl⟩
  intro env
  obtain ⟨r_2, hr_2, h⟩ := Sh.bind_some h
  refine WpOps.consG rfl rfl (WpO.callPv (V := fun (y : Unit) => (.tup [])) rfl rfl rfl (w_macro_need hr_2) (fun y_2 hr => ?_) (fun er H' hr hl => ?_))
  rotate_left
  ·
    subst hr
    replace h := Sh.orP_inl h
    obtain ⟨_, hle_3, hH⟩ := hH.lose_ (i := 0) rfl
    obtain ⟨_, hle_4, hH⟩ := hH.lose_ (i := 0) rfl
    have hH := hH.front (i := 1) rfl
    have hH := hH.front (i := 1) rfl
    obtain rfl := Sh.some_inj h
    exact DEnds.pan ⟨rfl, rfl, er, rfl, rfl, _, (Heap.le_trans hle_4 (Heap.le_trans hle_3 hl)), (⟨_, by first | rfl | exact yy.2 | exact yy.1.2 | exact yy.2.2⟩, ⟨_, by first | rfl | exact yy.2 | exact yy.1.2 | exact yy.2.2⟩), hH⟩
  subst hr
  replace h := Sh.orP_inr h
  refine WpOps.nil ?_
  refine WpC.seqK (fun x : (GMacro_reader × GMacro) × ((Option (Nat × Nat))) => [(2, (.lit (.pointer (some ⟨gm, 0, none⟩)))), (3, (.lit (.pointer (some ⟨ge, 0, none⟩)))), (4, (.lit (.pointer (some ⟨g_1, 0, none⟩))))]) (fun x H' => (macro_Define_in_j1 l) x.1 = some r ∧ Holds H0 [.cell g_1 81 (cGMacro_reader x.1.1), .own 9 1 x.2 (List.map cS x.1.2.params), .cell gm 44 [(sA x.1.2.name), (bA x.1.2.func), .own (List.map cS x.1.2.params).length x.2, (bA x.1.2.variadic), (AV.rows 6 (List.map cGTok x.1.2.body))], .cell ge 32 (cI (0 : Int))] H') ?_ ?_
  ·
    refine WpC.seqR ?_
    obtain ⟨r_3, hr_3, h⟩ := Sh.bind_some h
    refine WpOps.pn 1 rfl trivial ?_
    refine WpOps.consE (v := (bA r_3)) rfl rfl (Exact.call rfl rfl rfl (w_macro_reader_sign (hH.cell (i := 0) rfl) hr_3)) ?_
    obtain ⟨b_2, g_3, h⟩ := Sh.bind_some h
    refine WpOps.cutB 10 32 (bA b_2) rfl ?_ ?_
    ·
      refine WpOps.pn 1 rfl trivial ?_
      refine WpOps.split 23 rfl (fun hb => ?_) (fun hb => ?_)
      ·
        replace g_3 := Sh.ite_pos hb g_3
        refine WpOps.pn 3 rfl trivial ?_
        refine WpOps.consE (v := (AV.rows 6 (List.map cGTok y_1.2.l))) rfl rfl (Exact.load rfl rfl (hH.cell (i := 0) rfl) rfl rfl) ?_
        obtain ⟨y_3, hy_1, g_3⟩ := Sh.bind_some g_3
        refine WpOps.consE (v := (.rop (cGTok y_3))) rfl rfl (Exact.ixr cGTok hy_1 rfl rfl rfl rfl (by kernel_rfl) (by decide)) ?_
        refine WpOps.pn 1 rfl trivial ?_
        refine WpOps.consE (v := (bA y_3.blank)) rfl rfl (Exact.load_rop rfl rfl rfl) ?_
        refine WpOps.pn 2 rfl trivial ?_
        refine WpOps.nil ?_
        obtain rfl := Sh.some_inj g_3
        exact ⟨rfl, rfl⟩
      ·
        replace g_3 := Sh.ite_neg hb g_3
        refine WpOps.pn 9 rfl trivial ?_
        refine WpOps.nil ?_
        obtain rfl := Sh.some_inj g_3
        exact ⟨rfl, rfl⟩
    intro env
    refine WpOps.nil ?_
    refine WpC.condB rfl (fun hb => ?_) (fun hb => ?_)
    ·
      replace h := Sh.ite_pos hb h
      refine WpC.seqR ?_
      obtain ⟨r_4, hr_4, h⟩ := Sh.bind_some h
      refine WpOps.pn 1 rfl trivial ?_
      refine WpOps.consG rfl rfl (WpO.callT (v := (bA r_4.1)) rfl rfl rfl hH (i := 0) rfl (fun H1 hl hh => w_macro_reader_takes hh hr_4) fun H' hH => ?_)
      refine WpOps.nil ?_
      refine WpC.seqR ?_
      refine WpOps.pn 1 rfl trivial ?_
      refine WpOps.consG rfl rfl (WpO.putT (cs' := [(sA y_1.1), (bA true), .own (List.map cS ([] : List (List UInt8))).length none, (bA false), (AV.rows 6 (List.map cGTok ([] : List GTok)))]) (v := (bA true)) rfl rfl hH (i := 2) rfl rfl rfl rfl rfl rfl rfl fun H' hH => ?_)
      refine WpOps.nil ?_
      refine WpC.regionD ?_
      obtain ⟨r_5, hr_5, h⟩ := Sh.bind_some h
      refine WpOps.pn 1 rfl trivial ?_
      have hH := hH.front (i := 1) rfl
      have hH := hH.front (i := 2) rfl
      have hH := hH.front (i := 2) rfl
      refine WpOps.consG rfl rfl (WpO.callFP 3 (V := fun (y : (Unit) × GMacro_reader × GMacro) => (.tup [])) rfl rfl rfl hH (fun H1 hl hh => w_macro_reader_params hh hr_5) (fun y_4 b H' hr hH => ?_) (fun er yy H2 H' hr hl hH => ?_))
      rotate_left
      ·
        subst hr
        replace h := Sh.orP_inl h
        obtain ⟨_, hle_5, hH⟩ := hH.lose_ (i := 0) rfl
        have hH := hH.front (i := 1) rfl
        have hH := hH.front (i := 1) rfl
        obtain rfl := Sh.some_inj h
        exact ⟨_, Heap.le_refl _, DEnds.pan ⟨rfl, rfl, er, rfl, rfl, _, (Heap.le_trans hle_5 hl), (⟨_, by first | rfl | exact yy.2 | exact yy.1.2 | exact yy.2.2⟩, ⟨_, by first | rfl | exact yy.2 | exact yy.1.2 | exact yy.2.2⟩), hH⟩⟩
      subst hr
      replace h := Sh.orP_inr h
      have hH : Holds H0 [.cell g_1 81 (cGMacro_reader y_4.2.1), .cell gm 44 [(sA y_4.2.2.name), (bA y_4.2.2.func), .own (List.map cS y_4.2.2.params).length b, (bA y_4.2.2.variadic), (AV.rows 6 (List.map cGTok y_4.2.2.body))], .own 9 1 b (List.map cS y_4.2.2.params), .cell ge 32 (cI (0 : Int))] _ := hH
      have hH := hH.back 2
      have hH := hH.back 2
      have hH := hH.back 1
      have hH : Holds H0 [.cell g_1 81 (cGMacro_reader y_4.2.1), .own 9 1 b (List.map cS y_4.2.2.params), .cell gm 44 [(sA y_4.2.2.name), (bA y_4.2.2.func), .own (List.map cS y_4.2.2.params).length b, (bA y_4.2.2.variadic), (AV.rows 6 (List.map cGTok y_4.2.2.body))], .cell ge 32 (cI (0 : Int))] _ := hH
      obtain ⟨p_1, hp⟩ : ∃ q, q = b := ⟨_, rfl⟩
      rw [← hp] at hH
      refine WpOps.nil ?_
      exact ⟨_, (Heap.le_refl _), ((y_4.2.1, y_4.2.2), p_1), ⟨rfl, rfl, rfl, trivial⟩, h, hH⟩
    ·
      replace h := Sh.ite_neg hb h
      refine WpC.regionD ?_
      refine WpOps.pn 3 rfl trivial ?_
      refine WpOps.consE (v := (AV.rows 6 (List.map cGTok y_1.2.l))) rfl rfl (Exact.load rfl rfl (hH.cell (i := 0) rfl) rfl rfl) ?_
      refine WpOps.pn 1 rfl trivial ?_
      refine WpOps.at 42 (len_map _ _) ?_
      refine WpOps.pn 1 rfl trivial ?_
      obtain ⟨b_3, g_4, h⟩ := Sh.bind_some h
      refine WpOps.cutB 9 52 (bA b_3) rfl ?_ ?_
      ·
        refine WpOps.pn 1 rfl trivial ?_
        refine WpOps.split 44 rfl (fun hb => ?_) (fun hb => ?_)
        ·
          replace g_4 := Sh.ite_pos hb g_4
          refine WpOps.pn 8 rfl trivial ?_
          refine WpOps.nil ?_
          obtain rfl := Sh.some_inj g_4
          exact ⟨rfl, rfl⟩
        ·
          replace g_4 := Sh.ite_neg hb g_4
          refine WpOps.pn 3 rfl trivial ?_
          refine WpOps.consE (v := (AV.rows 6 (List.map cGTok y_1.2.l))) rfl rfl (Exact.load rfl rfl (hH.cell (i := 0) rfl) rfl rfl) ?_
          obtain ⟨y_5, hy_2, g_4⟩ := Sh.bind_some g_4
          refine WpOps.consE (v := (.rop (cGTok y_5))) rfl rfl (Exact.ixr cGTok hy_2 rfl rfl rfl rfl (by kernel_rfl) (by decide)) ?_
          refine WpOps.pn 1 rfl trivial ?_
          refine WpOps.consE (v := (bA y_5.blank)) rfl rfl (Exact.load_rop rfl rfl rfl) ?_
          refine WpOps.pn 1 rfl trivial ?_
          refine WpOps.nil ?_
          obtain rfl := Sh.some_inj g_4
          exact ⟨rfl, rfl⟩
      intro env
      obtain ⟨r_6, hr_6, h⟩ := Sh.bind_some h
      refine WpOps.consG rfl rfl (WpO.callPv (V := fun (y : Unit) => (.tup [])) rfl rfl rfl (w_macro_need hr_6) (fun y_6 hr => ?_) (fun er H' hr hl => ?_))
      rotate_left
      ·
        subst hr
        replace h := Sh.orP_inl h
        obtain ⟨_, hle_6, hH⟩ := hH.lose_ (i := 0) rfl
        obtain ⟨_, hle_7, hH⟩ := hH.lose_ (i := 0) rfl
        have hH := hH.front (i := 1) rfl
        have hH := hH.front (i := 1) rfl
        obtain rfl := Sh.some_inj h
        exact ⟨_, Heap.le_refl _, DEnds.pan ⟨rfl, rfl, er, rfl, rfl, _, (Heap.le_trans hle_7 (Heap.le_trans hle_6 hl)), (⟨_, by first | rfl | exact yy.2 | exact yy.1.2 | exact yy.2.2⟩, ⟨_, by first | rfl | exact yy.2 | exact yy.1.2 | exact yy.2.2⟩), hH⟩⟩
      subst hr
      replace h := Sh.orP_inr h
      refine WpOps.nil ?_
      exact ⟨_, (Heap.le_refl _), ((y_1.2, (GMacro.mk y_1.1 false ([] : List (List UInt8)) false ([] : List GTok))), none), ⟨rfl, rfl, rfl, trivial⟩, h, hH⟩
  ·
    rintro ⟨⟨r_7, m_1⟩, p_2⟩ env H' ⟨h, hH⟩
    try dsimp only at h
    refine WpC.seqR ?_
    refine WpOps.pn 3 rfl trivial ?_
    refine WpOps.consE (v := (AV.rows 6 (List.map cGTok r_7.l))) rfl rfl (Exact.load rfl rfl (hH.cell (i := 0) rfl) rfl rfl) ?_
    obtain ⟨c_1, h⟩ := Sh.chk_some h
    refine WpOps.consG rfl rfl (WpO.callO (t := 38) (size := 6) (es := List.map cGTok r_7.l) rfl rfl rfl hH (w_slices_Clone_Lapi_Tok_api_Tok c_1) fun p_3 H' hH => ?_)
    refine WpOps.pn 1 rfl trivial ?_
    refine WpOps.consG rfl rfl (WpO.putT (cs' := [(sA m_1.name), (bA m_1.func), .own (List.map cS m_1.params).length p_2, (bA m_1.variadic), .own (List.map cGTok r_7.l).length p_3]) rfl rfl hH (i := 3) rfl rfl rfl rfl rfl rfl rfl fun H' hH => ?_)
    refine WpOps.nil ?_
    refine WpC.lose (i := 1) hH rfl (fun H' hH => ?_)
    refine WpC.seqK (fun x : (GMacro) × ((Option (Nat × Nat)) × (Option (Nat × Nat))) => [(2, (.lit (.pointer (some ⟨gm, 0, none⟩)))), (3, (.lit (.pointer (some ⟨ge, 0, none⟩))))]) (fun x H' => macro_Define_in_j2 x.1 = some r ∧ Holds H0 [.own 38 6 x.2.2 (List.map cGTok x.1.body), .own 9 1 x.2.1 (List.map cS x.1.params), .cell gm 44 [(sA x.1.name), (bA x.1.func), .own (List.map cS x.1.params).length x.2.1, (bA x.1.variadic), .own (List.map cGTok x.1.body).length x.2.2], .cell ge 32 (cI (0 : Int))] H') ?_ ?_
    ·
      refine WpC.seqR ?_
      refine WpOps.pn 1 rfl trivial ?_
      refine WpOps.consE (v := (.own (List.map cGTok r_7.l).length p_3)) rfl rfl (Exact.load rfl rfl (hH.cell (i := 2) rfl) rfl rfl) ?_
      refine WpOps.pn 1 rfl trivial ?_
      refine WpOps.at 62 (len_map _ _) ?_
      refine WpOps.pn 1 rfl trivial ?_
      refine WpOps.nil ?_
      refine WpC.condB rfl (fun hb => ?_) (fun hb => ?_)
      ·
        replace h := Sh.ite_pos hb h
        refine WpC.regionD ?_
        refine WpOps.pn 1 rfl trivial ?_
        refine WpOps.consE (v := (.own (List.map cGTok r_7.l).length p_3)) rfl rfl (Exact.load rfl rfl (hH.cell (i := 2) rfl) rfl rfl) ?_
        obtain ⟨y_7, hy_3, h⟩ := Sh.bind_some h
        have hq_1 := h; have hq_2 := hH
        obtain ⟨g_5, cp_1, rfl⟩ := hq_2.grown (i := 0) rfl (ne_of_ix hy_3)
        have h := hq_1; have hH := hq_2
        refine WpOps.consE rfl rfl (Exact.ixo (size := 6) cGTok hy_3 rfl rfl rfl rfl (by kernel_rfl) (by decide)) ?_
        refine WpOps.pn 1 rfl trivial ?_
        refine WpOps.consG rfl rfl (WpO.setT (off := 5) (i := 0) cGTok (y' := (GTok.mk y_7.kind y_7.text y_7.file_ y_7.from_ y_7.to false)) (v := (bA false)) hy_3 hH rfl rfl rfl rfl rfl rfl rfl rfl rfl fun H' hH => ?_)
        have hH := hH.recell (i := 2) (cs' := [(sA m_1.name), (bA m_1.func), .own (List.map cS m_1.params).length p_2, (bA m_1.variadic), .own (List.map cGTok (r_7.l.set ((0 : Int)).toNat (GTok.mk y_7.kind y_7.text y_7.file_ y_7.from_ y_7.to false))).length (some (g_5, cp_1))]) rfl (by simp only [List.length_map, List.length_set])
        have hH : Holds H0 [.own 38 6 (some (g_5, cp_1)) (List.map cGTok (r_7.l.set ((0 : Int)).toNat (GTok.mk y_7.kind y_7.text y_7.file_ y_7.from_ y_7.to false))), .own 9 1 p_2 (List.map cS m_1.params), .cell gm 44 [(sA m_1.name), (bA m_1.func), .own (List.map cS m_1.params).length p_2, (bA m_1.variadic), .own (List.map cGTok (r_7.l.set ((0 : Int)).toNat (GTok.mk y_7.kind y_7.text y_7.file_ y_7.from_ y_7.to false))).length (some (g_5, cp_1))], .cell ge 32 (cI (0 : Int))] _ := hH
        refine WpOps.at 61 (own_set cGTok r_7.l ((0 : Int)).toNat (GTok.mk y_7.kind y_7.text y_7.file_ y_7.from_ y_7.to false) _) ?_
        refine WpOps.at 65 (own_set cGTok r_7.l ((0 : Int)).toNat (GTok.mk y_7.kind y_7.text y_7.file_ y_7.from_ y_7.to false) _) ?_
        refine WpOps.nil ?_
        exact ⟨_, (Heap.le_refl _), ((GMacro.mk m_1.name m_1.func m_1.params m_1.variadic (r_7.l.set ((0 : Int)).toNat (GTok.mk y_7.kind y_7.text y_7.file_ y_7.from_ y_7.to false))), (p_2, (some (g_5, cp_1)))), ⟨rfl, rfl, trivial⟩, h, hH⟩
      ·
        replace h := Sh.ite_neg hb h
        refine WpC.skipD ?_
        exact ⟨_, (Heap.le_refl _), ((GMacro.mk m_1.name m_1.func m_1.params m_1.variadic r_7.l), (p_2, p_3)), ⟨rfl, rfl, trivial⟩, h, hH⟩
    ·
      rintro ⟨m_2, ⟨p_4, p_5⟩⟩ env H' ⟨h, hH⟩
      try dsimp only at h
      refine WpC.freezeC (i := 1) (j := 1) (k := 2) hH rfl rfl rfl (fun H' hH => ?_)
      have hH : Holds H0 [.own 38 6 p_5 (List.map cGTok m_2.body), .cell gm 44 [(sA m_2.name), (bA m_2.func), (AV.rows 1 (List.map cS m_2.params)), (bA m_2.variadic), .own (List.map cGTok m_2.body).length p_5], .cell ge 32 (cI (0 : Int))] _ := hH
      refine WpC.freezeC (i := 0) (j := 0) (k := 4) hH rfl rfl rfl (fun H' hH => ?_)
      have hH : Holds H0 [.cell gm 44 (cGMacro m_2), .cell ge 32 (cI (0 : Int))] _ := hH
      refine WpC.seqR ?_
      refine WpOps.consE (v := (AV.agg (cGMacro m_2))) rfl rfl (Exact.load rfl rfl (hH.cell (i := 0) rfl) rfl rfl) ?_
      obtain ⟨r_8, hr_7, h⟩ := Sh.bind_some h
      refine WpOps.consG rfl rfl (WpO.callPv (V := fun (y : Unit) => (.tup [])) rfl rfl rfl (w_macro_body hr_7) (fun y_8 hr => ?_) (fun er H' hr hl => ?_))
      rotate_left
      ·
        subst hr
        replace h := Sh.orP_inl h
        have hH := hH.front (i := 1) rfl
        have hH := hH.front (i := 1) rfl
        obtain rfl := Sh.some_inj h
        exact DEnds.pan ⟨rfl, rfl, er, rfl, rfl, _, hl, (⟨_, by first | rfl | exact yy.2 | exact yy.1.2 | exact yy.2.2⟩, ⟨_, by first | rfl | exact yy.2 | exact yy.1.2 | exact yy.2.2⟩), hH⟩
      subst hr
      replace h := Sh.orP_inr h
      refine WpOps.nil ?_
      refine WpC.seqR ?_
      refine WpOps.consE (v := (AV.agg (cGMacro m_2))) rfl rfl (Exact.load rfl rfl (hH.cell (i := 0) rfl) rfl rfl) ?_
      refine WpOps.consG rfl rfl (WpO.putT (cs' := (cGMacro m_2)) (v := (AV.agg (cGMacro m_2))) rfl rfl hH (i := 0) rfl rfl rfl rfl rfl rfl rfl fun H' hH => ?_)
      refine WpOps.consG rfl rfl (WpO.putT (cs' := (cI (0 : Int))) (v := (iA (0 : Int))) rfl rfl hH (i := 1) rfl rfl rfl rfl rfl rfl rfl fun H' hH => ?_)
      refine WpOps.nil ?_
      obtain rfl := Sh.some_inj h
      refine WpC.ret ?_
      exact DEnds.ret_ ⟨rfl, rfl, _, rfl, hH⟩

theorem w_emendlaw06_define {H0 : Heap} (hG : Glob H0) {s_1 : List UInt8} {r : GMacro × Int} (h : emendlaw06_define s_1 = some r) : TCall Tryd.prog 29 [(sA s_1)] H0 (fun v H' => v = (.tup [(AV.agg (cGMacro r.1)), (iA r.2)]) ∧ H' = H0) noE := by
  refine TCall.up (TCall.body Tryd.func29 rfl rfl ?_)
  have hH : Holds H0 [] H0 := rfl
  refine WpC.seqR ?_
  refine WpOps.consG rfl rfl (WpO.allocU (z' := cGMacro (GMacro.mk ([] : List UInt8) false ([] : List (List UInt8)) false ([] : List GTok))) rfl rfl (.cons (.refl _) (.cons (.refl _) (.cons (Sub.nil _) (.cons (.refl _) (.cons (Sub.nil _) .nil))))) hH fun g_1 H' hH => ?_)
  refine WpOps.pn 1 rfl trivial ?_
  refine WpOps.nil ?_
  refine WpC.seqR ?_
  obtain ⟨r_1, hr_1, h⟩ := Sh.bind_some h
  refine WpOps.pn 1 rfl trivial ?_
  refine WpOps.consE (v := (AV.rows 6 (List.map cGTok r_1))) rfl rfl (Exact.call rfl rfl rfl (w_pptok_Tokens (hG.up hH) hr_1)) ?_
  obtain ⟨r_2, hr_2, h⟩ := Sh.bind_some h
  refine WpOps.consE (v := (.tup [(AV.agg (cGMacro r_2.1)), (iA r_2.2)])) rfl rfl (Exact.call rfl rfl rfl (w_macro_Define hr_2)) ?_
  refine WpOps.pn 2 rfl trivial ?_
  refine WpOps.consG rfl rfl (WpO.putT (cs' := (cGMacro r_2.1)) (v := (AV.agg (cGMacro r_2.1))) rfl rfl hH (i := 0) rfl rfl rfl rfl rfl rfl rfl fun H' hH => ?_)
  refine WpOps.pn 1 rfl trivial ?_
  refine WpOps.nil ?_
  obtain rfl := Sh.some_inj h
  refine WpC.ret ?_
  have hr := hH
  obtain ⟨_, hle_1, hx_1⟩ := hH.lose_ (i := 0) rfl
  exact VEnds.retG rfl (.cell rfl (hH.cell (i := 0) rfl) rfl rfl (.tmp rfl .nil)) ⟨_, _, Up.drop hle_1 _, rfl, hx_1⟩

theorem w_emendlaw06_wrong {H0 : Heap} (hG : Glob H0) {s_1 : List UInt8} {r : Int} (h : emendlaw06_wrong s_1 = some r) : TCall Tryd.prog 52 [(sA s_1)] H0 (fun v H' => v = (iA r) ∧ H' = H0) noE := by
  refine id (TCall.body Tryd.func52 rfl rfl ?_)
  have hH : Holds H0 [] H0 := rfl
  refine WpC.seqR ?_
  refine WpOps.pn 1 rfl trivial ?_
  refine WpOps.nil ?_
  refine WpC.seqR ?_
  obtain ⟨r_1, hr_1, h⟩ := Sh.bind_some h
  refine WpOps.pn 1 rfl trivial ?_
  refine WpOps.consE (v := (.tup [(AV.agg (cGMacro r_1.1)), (iA r_1.2)])) rfl rfl (Exact.call rfl rfl rfl (w_emendlaw06_define (hG.up hH) hr_1)) ?_
  refine WpOps.pn 3 rfl trivial ?_
  refine WpOps.consG rfl rfl (WpO.allocU (z' := cGMacro (GMacro.mk ([] : List UInt8) false ([] : List (List UInt8)) false ([] : List GTok))) rfl rfl (.cons (.refl _) (.cons (.refl _) (.cons (Sub.nil _) (.cons (.refl _) (.cons (Sub.nil _) .nil))))) hH fun g_1 H' hH => ?_)
  refine WpOps.consG rfl rfl (WpO.putT (cs' := (cGMacro r_1.1)) (v := (AV.agg (cGMacro r_1.1))) rfl rfl hH (i := 0) rfl rfl rfl rfl rfl rfl rfl fun H' hH => ?_)
  refine WpOps.pn 1 rfl trivial ?_
  refine WpOps.nil ?_
  refine WpC.seqR ?_
  refine WpOps.pn 2 rfl trivial ?_
  refine WpOps.nil ?_
  refine WpC.lose (i := 0) hH rfl (fun H' hH => ?_)
  obtain rfl := Sh.some_inj h
  refine WpC.ret ?_
  exact VEnds.ret1 rfl rfl ⟨rfl, hH⟩

theorem w_emendlaw06_awake {H0 : Heap} (hG : Glob H0)  {r : Bool} (h : emendlaw06_awake  = some r) : TCall Tryd.prog 28 [] H0 (fun v H' => v = (bA r) ∧ H' = H0) noE := by
  refine id (TCall.body Tryd.func28 rfl rfl ?_)
  have hH : Holds H0 [] H0 := rfl
  refine WpC.seqR ?_
  refine WpOps.pn 1 rfl trivial ?_
  refine WpOps.nil ?_
  refine WpC.seqR ?_
  obtain ⟨r_1, hr_1, h⟩ := Sh.bind_some h
  refine WpOps.consE (v := (.tup [(AV.agg (cGMacro r_1.1)), (iA r_1.2)])) rfl rfl (Exact.call rfl rfl rfl (w_emendlaw06_define (hG.up hH) hr_1)) ?_
  refine WpOps.pn 3 rfl trivial ?_
  refine WpOps.consG rfl rfl (WpO.allocU (z' := cGMacro (GMacro.mk ([] : List UInt8) false ([] : List (List UInt8)) false ([] : List GTok))) rfl rfl (.cons (.refl _) (.cons (.refl _) (.cons (Sub.nil _) (.cons (.refl _) (.cons (Sub.nil _) .nil))))) hH fun g_1 H' hH => ?_)
  refine WpOps.consG rfl rfl (WpO.putT (cs' := (cGMacro r_1.1)) (v := (AV.agg (cGMacro r_1.1))) rfl rfl hH (i := 0) rfl rfl rfl rfl rfl rfl rfl fun H' hH => ?_)
  refine WpOps.pn 1 rfl trivial ?_
  refine WpOps.nil ?_
  refine WpC.seqR ?_
  obtain ⟨r_2, hr_2, h⟩ := Sh.bind_some h
  refine WpOps.consE (v := (.tup [(AV.agg (cGMacro r_2.1)), (iA r_2.2)])) rfl rfl (Exact.call rfl rfl rfl (w_emendlaw06_define (hG.up hH) hr_2)) ?_
  refine WpOps.pn 3 rfl trivial ?_
  refine WpOps.consG rfl rfl (WpO.allocU (z' := cGMacro (GMacro.mk ([] : List UInt8) false ([] : List (List UInt8)) false ([] : List GTok))) rfl rfl (.cons (.refl _) (.cons (.refl _) (.cons (Sub.nil _) (.cons (.refl _) (.cons (Sub.nil _) .nil))))) hH fun g_2 H' hH => ?_)
  refine WpOps.consG rfl rfl (WpO.putT (cs' := (cGMacro r_2.1)) (v := (AV.agg (cGMacro r_2.1))) rfl rfl hH (i := 0) rfl rfl rfl rfl rfl rfl rfl fun H' hH => ?_)
  refine WpOps.pn 1 rfl trivial ?_
  refine WpOps.nil ?_
  refine WpC.seqR ?_
  obtain ⟨r_3, hr_3, h⟩ := Sh.bind_some h
  refine WpOps.consE (v := (.tup [(AV.agg (cGMacro r_3.1)), (iA r_3.2)])) rfl rfl (Exact.call rfl rfl rfl (w_emendlaw06_define (hG.up hH) hr_3)) ?_
  refine WpOps.pn 3 rfl trivial ?_
  refine WpOps.consG rfl rfl (WpO.allocU (z' := cGMacro (GMacro.mk ([] : List UInt8) false ([] : List (List UInt8)) false ([] : List GTok))) rfl rfl (.cons (.refl _) (.cons (.refl _) (.cons (Sub.nil _) (.cons (.refl _) (.cons (Sub.nil _) .nil))))) hH fun g_3 H' hH => ?_)
  refine WpOps.consG rfl rfl (WpO.putT (cs' := (cGMacro r_3.1)) (v := (AV.agg (cGMacro r_3.1))) rfl rfl hH (i := 0) rfl rfl rfl rfl rfl rfl rfl fun H' hH => ?_)
  refine WpOps.pn 1 rfl trivial ?_
  refine WpOps.nil ?_
  refine WpC.seqR ?_
  obtain ⟨r_4, hr_4, h⟩ := Sh.bind_some h
  refine WpOps.consE (v := (.tup [(AV.agg (cGMacro r_4.1)), (iA r_4.2)])) rfl rfl (Exact.call rfl rfl rfl (w_emendlaw06_define (hG.up hH) hr_4)) ?_
  refine WpOps.pn 3 rfl trivial ?_
  refine WpOps.consG rfl rfl (WpO.allocU (z' := cGMacro (GMacro.mk ([] : List UInt8) false ([] : List (List UInt8)) false ([] : List GTok))) rfl rfl (.cons (.refl _) (.cons (.refl _) (.cons (Sub.nil _) (.cons (.refl _) (.cons (Sub.nil _) .nil))))) hH fun g_4 H' hH => ?_)
  refine WpOps.consG rfl rfl (WpO.putT (cs' := (cGMacro r_4.1)) (v := (AV.agg (cGMacro r_4.1))) rfl rfl hH (i := 0) rfl rfl rfl rfl rfl rfl rfl fun H' hH => ?_)
  refine WpOps.pn 1 rfl trivial ?_
  refine WpOps.nil ?_
  refine WpC.seqR ?_
  obtain ⟨r_5, hr_5, h⟩ := Sh.bind_some h
  refine WpOps.consE (v := (.tup [(AV.agg (cGMacro r_5.1)), (iA r_5.2)])) rfl rfl (Exact.call rfl rfl rfl (w_emendlaw06_define (hG.up hH) hr_5)) ?_
  refine WpOps.pn 3 rfl trivial ?_
  refine WpOps.consG rfl rfl (WpO.allocU (z' := cGMacro (GMacro.mk ([] : List UInt8) false ([] : List (List UInt8)) false ([] : List GTok))) rfl rfl (.cons (.refl _) (.cons (.refl _) (.cons (Sub.nil _) (.cons (.refl _) (.cons (Sub.nil _) .nil))))) hH fun g_5 H' hH => ?_)
  refine WpOps.consG rfl rfl (WpO.putT (cs' := (cGMacro r_5.1)) (v := (AV.agg (cGMacro r_5.1))) rfl rfl hH (i := 0) rfl rfl rfl rfl rfl rfl rfl fun H' hH => ?_)
  refine WpOps.pn 1 rfl trivial ?_
  refine WpOps.nil ?_
  refine WpC.seqR ?_
  obtain ⟨r_6, hr_6, h⟩ := Sh.bind_some h
  refine WpOps.consE (v := (.tup [(AV.agg (cGMacro r_6.1)), (iA r_6.2)])) rfl rfl (Exact.call rfl rfl rfl (w_emendlaw06_define (hG.up hH) hr_6)) ?_
  refine WpOps.pn 3 rfl trivial ?_
  refine WpOps.consG rfl rfl (WpO.allocU (z' := cGMacro (GMacro.mk ([] : List UInt8) false ([] : List (List UInt8)) false ([] : List GTok))) rfl rfl (.cons (.refl _) (.cons (.refl _) (.cons (Sub.nil _) (.cons (.refl _) (.cons (Sub.nil _) .nil))))) hH fun g_6 H' hH => ?_)
  refine WpOps.consG rfl rfl (WpO.putT (cs' := (cGMacro r_6.1)) (v := (AV.agg (cGMacro r_6.1))) rfl rfl hH (i := 0) rfl rfl rfl rfl rfl rfl rfl fun H' hH => ?_)
  refine WpOps.pn 1 rfl trivial ?_
  refine WpOps.nil ?_
  refine WpC.seqR ?_
  obtain ⟨r_7, hr_7, h⟩ := Sh.bind_some h
  refine WpOps.consE (v := (.tup [(AV.agg (cGMacro r_7.1)), (iA r_7.2)])) rfl rfl (Exact.call rfl rfl rfl (w_emendlaw06_define (hG.up hH) hr_7)) ?_
  refine WpOps.pn 3 rfl trivial ?_
  refine WpOps.consG rfl rfl (WpO.allocU (z' := cGMacro (GMacro.mk ([] : List UInt8) false ([] : List (List UInt8)) false ([] : List GTok))) rfl rfl (.cons (.refl _) (.cons (.refl _) (.cons (Sub.nil _) (.cons (.refl _) (.cons (Sub.nil _) .nil))))) hH fun g_7 H' hH => ?_)
  refine WpOps.consG rfl rfl (WpO.putT (cs' := (cGMacro r_7.1)) (v := (AV.agg (cGMacro r_7.1))) rfl rfl hH (i := 0) rfl rfl rfl rfl rfl rfl rfl fun H' hH => ?_)
  refine WpOps.pn 1 rfl trivial ?_
  refine WpOps.nil ?_
  refine WpC.seqR ?_
  obtain ⟨r_8, hr_8, h⟩ := Sh.bind_some h
  refine WpOps.consE (v := (.tup [(AV.agg (cGMacro r_8.1)), (iA r_8.2)])) rfl rfl (Exact.call rfl rfl rfl (w_emendlaw06_define (hG.up hH) hr_8)) ?_
  refine WpOps.pn 3 rfl trivial ?_
  refine WpOps.consG rfl rfl (WpO.allocU (z' := cGMacro (GMacro.mk ([] : List UInt8) false ([] : List (List UInt8)) false ([] : List GTok))) rfl rfl (.cons (.refl _) (.cons (.refl _) (.cons (Sub.nil _) (.cons (.refl _) (.cons (Sub.nil _) .nil))))) hH fun g_8 H' hH => ?_)
  refine WpOps.consG rfl rfl (WpO.putT (cs' := (cGMacro r_8.1)) (v := (AV.agg (cGMacro r_8.1))) rfl rfl hH (i := 0) rfl rfl rfl rfl rfl rfl rfl fun H' hH => ?_)
  refine WpOps.pn 1 rfl trivial ?_
  refine WpOps.nil ?_
  refine WpC.seqR ?_
  refine WpOps.pn 2 rfl trivial ?_
  obtain ⟨b_1, g_9, h⟩ := Sh.bind_some h
  refine WpOps.cutB 5 64 (bA b_1) rfl ?_ ?_
  ·
    refine WpOps.pn 1 rfl trivial ?_
    refine WpOps.split 60 rfl (fun hb => ?_) (fun hb => ?_)
    ·
      replace g_9 := Sh.ite_pos hb g_9
      refine WpOps.pn 1 rfl trivial ?_
      refine WpOps.consE (v := (bA r_1.1.func)) rfl rfl (Exact.load rfl rfl (hH.cell (i := 7) rfl) rfl rfl) ?_
      refine WpOps.pn 2 rfl trivial ?_
      refine WpOps.nil ?_
      obtain rfl := Sh.some_inj g_9
      exact ⟨rfl, rfl⟩
    ·
      replace g_9 := Sh.ite_neg hb g_9
      refine WpOps.pn 4 rfl trivial ?_
      refine WpOps.nil ?_
      obtain rfl := Sh.some_inj g_9
      exact ⟨rfl, rfl⟩
  intro env
  obtain ⟨b_2, g_10, h⟩ := Sh.bind_some h
  refine WpOps.cutB 6 70 (bA b_2) rfl ?_ ?_
  ·
    refine WpOps.pn 1 rfl trivial ?_
    refine WpOps.split 65 rfl (fun hb => ?_) (fun hb => ?_)
    ·
      replace g_10 := Sh.ite_pos hb g_10
      refine WpOps.pn 1 rfl trivial ?_
      refine WpOps.consE (v := (AV.rows 6 (List.map cGTok r_1.1.body))) rfl rfl (Exact.load rfl rfl (hH.cell (i := 7) rfl) rfl rfl) ?_
      refine WpOps.pn 1 rfl trivial ?_
      refine WpOps.at 68 (len_map _ _) ?_
      refine WpOps.pn 2 rfl trivial ?_
      refine WpOps.nil ?_
      obtain rfl := Sh.some_inj g_10
      exact ⟨rfl, rfl⟩
    ·
      replace g_10 := Sh.ite_neg hb g_10
      refine WpOps.pn 5 rfl trivial ?_
      refine WpOps.nil ?_
      obtain rfl := Sh.some_inj g_10
      exact ⟨rfl, rfl⟩
  intro env
  obtain ⟨b_3, g_11, h⟩ := Sh.bind_some h
  refine WpOps.cutB 6 76 (bA b_3) rfl ?_ ?_
  ·
    refine WpOps.pn 1 rfl trivial ?_
    refine WpOps.split 71 rfl (fun hb => ?_) (fun hb => ?_)
    ·
      replace g_11 := Sh.ite_pos hb g_11
      refine WpOps.pn 1 rfl trivial ?_
      refine WpOps.consE (v := (AV.rows 6 (List.map cGTok r_2.1.body))) rfl rfl (Exact.load rfl rfl (hH.cell (i := 6) rfl) rfl rfl) ?_
      refine WpOps.pn 1 rfl trivial ?_
      refine WpOps.at 74 (len_map _ _) ?_
      refine WpOps.pn 2 rfl trivial ?_
      refine WpOps.nil ?_
      obtain rfl := Sh.some_inj g_11
      exact ⟨rfl, rfl⟩
    ·
      replace g_11 := Sh.ite_neg hb g_11
      refine WpOps.pn 5 rfl trivial ?_
      refine WpOps.nil ?_
      obtain rfl := Sh.some_inj g_11
      exact ⟨rfl, rfl⟩
  intro env
  obtain ⟨b_4, g_12, h⟩ := Sh.bind_some h
  refine WpOps.cutB 4 80 (bA b_4) rfl ?_ ?_
  ·
    refine WpOps.pn 1 rfl trivial ?_
    refine WpOps.split 77 rfl (fun hb => ?_) (fun hb => ?_)
    ·
      replace g_12 := Sh.ite_pos hb g_12
      refine WpOps.pn 1 rfl trivial ?_
      refine WpOps.consE (v := (bA r_3.1.func)) rfl rfl (Exact.load rfl rfl (hH.cell (i := 5) rfl) rfl rfl) ?_
      refine WpOps.pn 1 rfl trivial ?_
      refine WpOps.nil ?_
      obtain rfl := Sh.some_inj g_12
      exact ⟨rfl, rfl⟩
    ·
      replace g_12 := Sh.ite_neg hb g_12
      refine WpOps.pn 3 rfl trivial ?_
      refine WpOps.nil ?_
      obtain rfl := Sh.some_inj g_12
      exact ⟨rfl, rfl⟩
  intro env
  obtain ⟨b_5, g_13, h⟩ := Sh.bind_some h
  refine WpOps.cutB 6 86 (bA b_5) rfl ?_ ?_
  ·
    refine WpOps.pn 1 rfl trivial ?_
    refine WpOps.split 81 rfl (fun hb => ?_) (fun hb => ?_)
    ·
      replace g_13 := Sh.ite_pos hb g_13
      refine WpOps.pn 1 rfl trivial ?_
      refine WpOps.consE (v := (AV.rows 1 (List.map cS r_3.1.params))) rfl rfl (Exact.load rfl rfl (hH.cell (i := 5) rfl) rfl rfl) ?_
      refine WpOps.pn 1 rfl trivial ?_
      refine WpOps.at 84 (len_map _ _) ?_
      refine WpOps.pn 2 rfl trivial ?_
      refine WpOps.nil ?_
      obtain rfl := Sh.some_inj g_13
      exact ⟨rfl, rfl⟩
    ·
      replace g_13 := Sh.ite_neg hb g_13
      refine WpOps.pn 5 rfl trivial ?_
      refine WpOps.nil ?_
      obtain rfl := Sh.some_inj g_13
      exact ⟨rfl, rfl⟩
  intro env
  obtain ⟨b_6, g_14, h⟩ := Sh.bind_some h
  refine WpOps.cutB 6 92 (bA b_6) rfl ?_ ?_
  ·
    refine WpOps.pn 1 rfl trivial ?_
    refine WpOps.split 87 rfl (fun hb => ?_) (fun hb => ?_)
    ·
      replace g_14 := Sh.ite_pos hb g_14
      refine WpOps.pn 1 rfl trivial ?_
      refine WpOps.consE (v := (AV.rows 6 (List.map cGTok r_3.1.body))) rfl rfl (Exact.load rfl rfl (hH.cell (i := 5) rfl) rfl rfl) ?_
      refine WpOps.pn 1 rfl trivial ?_
      refine WpOps.at 90 (len_map _ _) ?_
      refine WpOps.pn 2 rfl trivial ?_
      refine WpOps.nil ?_
      obtain rfl := Sh.some_inj g_14
      exact ⟨rfl, rfl⟩
    ·
      replace g_14 := Sh.ite_neg hb g_14
      refine WpOps.pn 5 rfl trivial ?_
      refine WpOps.nil ?_
      obtain rfl := Sh.some_inj g_14
      exact ⟨rfl, rfl⟩
  intro env
  obtain ⟨b_7, g_15, h⟩ := Sh.bind_some h
  refine WpOps.cutB 5 97 (bA b_7) rfl ?_ ?_
  ·
    refine WpOps.pn 1 rfl trivial ?_
    refine WpOps.split 93 rfl (fun hb => ?_) (fun hb => ?_)
    ·
      replace g_15 := Sh.ite_pos hb g_15
      refine WpOps.pn 1 rfl trivial ?_
      refine WpOps.consE (v := (bA r_4.1.func)) rfl rfl (Exact.load rfl rfl (hH.cell (i := 4) rfl) rfl rfl) ?_
      refine WpOps.pn 2 rfl trivial ?_
      refine WpOps.nil ?_
      obtain rfl := Sh.some_inj g_15
      exact ⟨rfl, rfl⟩
    ·
      replace g_15 := Sh.ite_neg hb g_15
      refine WpOps.pn 4 rfl trivial ?_
      refine WpOps.nil ?_
      obtain rfl := Sh.some_inj g_15
      exact ⟨rfl, rfl⟩
  intro env
  obtain ⟨b_8, g_16, h⟩ := Sh.bind_some h
  refine WpOps.cutB 6 103 (bA b_8) rfl ?_ ?_
  ·
    refine WpOps.pn 1 rfl trivial ?_
    refine WpOps.split 98 rfl (fun hb => ?_) (fun hb => ?_)
    ·
      replace g_16 := Sh.ite_pos hb g_16
      refine WpOps.pn 1 rfl trivial ?_
      refine WpOps.consE (v := (AV.rows 6 (List.map cGTok r_4.1.body))) rfl rfl (Exact.load rfl rfl (hH.cell (i := 4) rfl) rfl rfl) ?_
      refine WpOps.pn 1 rfl trivial ?_
      refine WpOps.at 101 (len_map _ _) ?_
      refine WpOps.pn 2 rfl trivial ?_
      refine WpOps.nil ?_
      obtain rfl := Sh.some_inj g_16
      exact ⟨rfl, rfl⟩
    ·
      replace g_16 := Sh.ite_neg hb g_16
      refine WpOps.pn 5 rfl trivial ?_
      refine WpOps.nil ?_
      obtain rfl := Sh.some_inj g_16
      exact ⟨rfl, rfl⟩
  intro env
  obtain ⟨b_9, g_17, h⟩ := Sh.bind_some h
  refine WpOps.cutB 4 107 (bA b_9) rfl ?_ ?_
  ·
    refine WpOps.pn 1 rfl trivial ?_
    refine WpOps.split 104 rfl (fun hb => ?_) (fun hb => ?_)
    ·
      replace g_17 := Sh.ite_pos hb g_17
      refine WpOps.pn 1 rfl trivial ?_
      refine WpOps.consE (v := (bA r_5.1.func)) rfl rfl (Exact.load rfl rfl (hH.cell (i := 3) rfl) rfl rfl) ?_
      refine WpOps.pn 1 rfl trivial ?_
      refine WpOps.nil ?_
      obtain rfl := Sh.some_inj g_17
      exact ⟨rfl, rfl⟩
    ·
      replace g_17 := Sh.ite_neg hb g_17
      refine WpOps.pn 3 rfl trivial ?_
      refine WpOps.nil ?_
      obtain rfl := Sh.some_inj g_17
      exact ⟨rfl, rfl⟩
  intro env
  obtain ⟨b_10, g_18, h⟩ := Sh.bind_some h
  refine WpOps.cutB 6 113 (bA b_10) rfl ?_ ?_
  ·
    refine WpOps.pn 1 rfl trivial ?_
    refine WpOps.split 108 rfl (fun hb => ?_) (fun hb => ?_)
    ·
      replace g_18 := Sh.ite_pos hb g_18
      refine WpOps.pn 1 rfl trivial ?_
      refine WpOps.consE (v := (AV.rows 1 (List.map cS r_5.1.params))) rfl rfl (Exact.load rfl rfl (hH.cell (i := 3) rfl) rfl rfl) ?_
      refine WpOps.pn 1 rfl trivial ?_
      refine WpOps.at 111 (len_map _ _) ?_
      refine WpOps.pn 2 rfl trivial ?_
      refine WpOps.nil ?_
      obtain rfl := Sh.some_inj g_18
      exact ⟨rfl, rfl⟩
    ·
      replace g_18 := Sh.ite_neg hb g_18
      refine WpOps.pn 5 rfl trivial ?_
      refine WpOps.nil ?_
      obtain rfl := Sh.some_inj g_18
      exact ⟨rfl, rfl⟩
  intro env
  obtain ⟨b_11, g_19, h⟩ := Sh.bind_some h
  refine WpOps.cutB 4 117 (bA b_11) rfl ?_ ?_
  ·
    refine WpOps.pn 1 rfl trivial ?_
    refine WpOps.split 114 rfl (fun hb => ?_) (fun hb => ?_)
    ·
      replace g_19 := Sh.ite_pos hb g_19
      refine WpOps.pn 1 rfl trivial ?_
      refine WpOps.consE (v := (bA r_6.1.variadic)) rfl rfl (Exact.load rfl rfl (hH.cell (i := 2) rfl) rfl rfl) ?_
      refine WpOps.pn 1 rfl trivial ?_
      refine WpOps.nil ?_
      obtain rfl := Sh.some_inj g_19
      exact ⟨rfl, rfl⟩
    ·
      replace g_19 := Sh.ite_neg hb g_19
      refine WpOps.pn 3 rfl trivial ?_
      refine WpOps.nil ?_
      obtain rfl := Sh.some_inj g_19
      exact ⟨rfl, rfl⟩
  intro env
  obtain ⟨b_12, g_20, h⟩ := Sh.bind_some h
  refine WpOps.cutB 6 123 (bA b_12) rfl ?_ ?_
  ·
    refine WpOps.pn 1 rfl trivial ?_
    refine WpOps.split 118 rfl (fun hb => ?_) (fun hb => ?_)
    ·
      replace g_20 := Sh.ite_pos hb g_20
      refine WpOps.pn 1 rfl trivial ?_
      refine WpOps.consE (v := (AV.rows 6 (List.map cGTok r_6.1.body))) rfl rfl (Exact.load rfl rfl (hH.cell (i := 2) rfl) rfl rfl) ?_
      refine WpOps.pn 1 rfl trivial ?_
      refine WpOps.at 121 (len_map _ _) ?_
      refine WpOps.pn 2 rfl trivial ?_
      refine WpOps.nil ?_
      obtain rfl := Sh.some_inj g_20
      exact ⟨rfl, rfl⟩
    ·
      replace g_20 := Sh.ite_neg hb g_20
      refine WpOps.pn 5 rfl trivial ?_
      refine WpOps.nil ?_
      obtain rfl := Sh.some_inj g_20
      exact ⟨rfl, rfl⟩
  intro env
  obtain ⟨b_13, g_21, h⟩ := Sh.bind_some h
  refine WpOps.cutB 4 127 (bA b_13) rfl ?_ ?_
  ·
    refine WpOps.pn 1 rfl trivial ?_
    refine WpOps.split 124 rfl (fun hb => ?_) (fun hb => ?_)
    ·
      replace g_21 := Sh.ite_pos hb g_21
      refine WpOps.pn 1 rfl trivial ?_
      refine WpOps.consE (v := (bA r_7.1.variadic)) rfl rfl (Exact.load rfl rfl (hH.cell (i := 1) rfl) rfl rfl) ?_
      refine WpOps.pn 1 rfl trivial ?_
      refine WpOps.nil ?_
      obtain rfl := Sh.some_inj g_21
      exact ⟨rfl, rfl⟩
    ·
      replace g_21 := Sh.ite_neg hb g_21
      refine WpOps.pn 3 rfl trivial ?_
      refine WpOps.nil ?_
      obtain rfl := Sh.some_inj g_21
      exact ⟨rfl, rfl⟩
  intro env
  obtain ⟨b_14, g_22, h⟩ := Sh.bind_some h
  refine WpOps.cutB 6 133 (bA b_14) rfl ?_ ?_
  ·
    refine WpOps.pn 1 rfl trivial ?_
    refine WpOps.split 128 rfl (fun hb => ?_) (fun hb => ?_)
    ·
      replace g_22 := Sh.ite_pos hb g_22
      refine WpOps.pn 1 rfl trivial ?_
      refine WpOps.consE (v := (AV.rows 1 (List.map cS r_7.1.params))) rfl rfl (Exact.load rfl rfl (hH.cell (i := 1) rfl) rfl rfl) ?_
      refine WpOps.pn 1 rfl trivial ?_
      refine WpOps.at 131 (len_map _ _) ?_
      refine WpOps.pn 2 rfl trivial ?_
      refine WpOps.nil ?_
      obtain rfl := Sh.some_inj g_22
      exact ⟨rfl, rfl⟩
    ·
      replace g_22 := Sh.ite_neg hb g_22
      refine WpOps.pn 5 rfl trivial ?_
      refine WpOps.nil ?_
      obtain rfl := Sh.some_inj g_22
      exact ⟨rfl, rfl⟩
  intro env
  obtain ⟨b_15, g_23, h⟩ := Sh.bind_some h
  refine WpOps.cutB 4 137 (bA b_15) rfl ?_ ?_
  ·
    refine WpOps.pn 1 rfl trivial ?_
    refine WpOps.split 134 rfl (fun hb => ?_) (fun hb => ?_)
    ·
      replace g_23 := Sh.ite_pos hb g_23
      refine WpOps.pn 3 rfl trivial ?_
      refine WpOps.nil ?_
      obtain rfl := Sh.some_inj g_23
      exact ⟨rfl, rfl⟩
    ·
      replace g_23 := Sh.ite_neg hb g_23
      refine WpOps.pn 3 rfl trivial ?_
      refine WpOps.nil ?_
      obtain rfl := Sh.some_inj g_23
      exact ⟨rfl, rfl⟩
  intro env
  obtain ⟨b_16, g_24, h⟩ := Sh.bind_some h
  refine WpOps.cutB 6 143 (bA b_16) rfl ?_ ?_
  ·
    refine WpOps.pn 1 rfl trivial ?_
    refine WpOps.split 138 rfl (fun hb => ?_) (fun hb => ?_)
    ·
      replace g_24 := Sh.ite_pos hb g_24
      refine WpOps.pn 1 rfl trivial ?_
      refine WpOps.consE (v := (AV.rows 6 (List.map cGTok r_8.1.body))) rfl rfl (Exact.load rfl rfl (hH.cell (i := 0) rfl) rfl rfl) ?_
      refine WpOps.pn 1 rfl trivial ?_
      refine WpOps.at 141 (len_map _ _) ?_
      refine WpOps.pn 2 rfl trivial ?_
      refine WpOps.nil ?_
      obtain rfl := Sh.some_inj g_24
      exact ⟨rfl, rfl⟩
    ·
      replace g_24 := Sh.ite_neg hb g_24
      refine WpOps.pn 5 rfl trivial ?_
      refine WpOps.nil ?_
      obtain rfl := Sh.some_inj g_24
      exact ⟨rfl, rfl⟩
  intro env
  refine WpOps.pn 1 rfl trivial ?_
  refine WpOps.nil ?_
  refine WpC.seqR ?_
  obtain ⟨r_9, hr_9, h⟩ := Sh.bind_some h
  refine WpOps.consE (v := (iA r_9)) rfl rfl (Exact.call rfl rfl rfl (w_emendlaw06_wrong (hG.up hH) hr_9)) ?_
  refine WpOps.pn 1 rfl trivial ?_
  refine WpOps.nil ?_
  refine WpC.seqR ?_
  obtain ⟨r_10, hr_10, h⟩ := Sh.bind_some h
  refine WpOps.consE (v := (iA r_10)) rfl rfl (Exact.call rfl rfl rfl (w_emendlaw06_wrong (hG.up hH) hr_10)) ?_
  refine WpOps.pn 1 rfl trivial ?_
  refine WpOps.nil ?_
  refine WpC.seqR ?_
  obtain ⟨r_11, hr_11, h⟩ := Sh.bind_some h
  refine WpOps.consE (v := (iA r_11)) rfl rfl (Exact.call rfl rfl rfl (w_emendlaw06_wrong (hG.up hH) hr_11)) ?_
  refine WpOps.pn 1 rfl trivial ?_
  refine WpOps.nil ?_
  refine WpC.seqR ?_
  obtain ⟨r_12, hr_12, h⟩ := Sh.bind_some h
  refine WpOps.consE (v := (iA r_12)) rfl rfl (Exact.call rfl rfl rfl (w_emendlaw06_wrong (hG.up hH) hr_12)) ?_
  refine WpOps.pn 1 rfl trivial ?_
  refine WpOps.nil ?_
  refine WpC.seqR ?_
  obtain ⟨r_13, hr_13, h⟩ := Sh.bind_some h
  refine WpOps.consE (v := (iA r_13)) rfl rfl (Exact.call rfl rfl rfl (w_emendlaw06_wrong (hG.up hH) hr_13)) ?_
  refine WpOps.pn 1 rfl trivial ?_
  refine WpOps.nil ?_
  refine WpC.seqR ?_
  obtain ⟨r_14, hr_14, h⟩ := Sh.bind_some h
  refine WpOps.consE (v := (iA r_14)) rfl rfl (Exact.call rfl rfl rfl (w_emendlaw06_wrong (hG.up hH) hr_14)) ?_
  refine WpOps.pn 1 rfl trivial ?_
  refine WpOps.nil ?_
  refine WpC.seqR ?_
  obtain ⟨r_15, hr_15, h⟩ := Sh.bind_some h
  refine WpOps.consE (v := (iA r_15)) rfl rfl (Exact.call rfl rfl rfl (w_emendlaw06_wrong (hG.up hH) hr_15)) ?_
  refine WpOps.pn 1 rfl trivial ?_
  refine WpOps.nil ?_
  refine WpC.seqR ?_
  obtain ⟨r_16, hr_16, h⟩ := Sh.bind_some h
  refine WpOps.consE (v := (iA r_16)) rfl rfl (Exact.call rfl rfl rfl (w_emendlaw06_wrong (hG.up hH) hr_16)) ?_
  refine WpOps.pn 1 rfl trivial ?_
  refine WpOps.nil ?_
  refine WpC.seqR ?_
  refine WpOps.pn 1 rfl trivial ?_
  obtain ⟨b_17, g_25, h⟩ := Sh.bind_some h
  refine WpOps.cutB 4 156 (bA b_17) rfl ?_ ?_
  ·
    refine WpOps.pn 1 rfl trivial ?_
    refine WpOps.split 153 rfl (fun hb => ?_) (fun hb => ?_)
    ·
      replace g_25 := Sh.ite_pos hb g_25
      refine WpOps.pn 3 rfl trivial ?_
      refine WpOps.nil ?_
      obtain rfl := Sh.some_inj g_25
      exact ⟨rfl, rfl⟩
    ·
      replace g_25 := Sh.ite_neg hb g_25
      refine WpOps.pn 3 rfl trivial ?_
      refine WpOps.nil ?_
      obtain rfl := Sh.some_inj g_25
      exact ⟨rfl, rfl⟩
  intro env
  obtain ⟨b_18, g_26, h⟩ := Sh.bind_some h
  refine WpOps.cutB 4 160 (bA b_18) rfl ?_ ?_
  ·
    refine WpOps.pn 1 rfl trivial ?_
    refine WpOps.split 157 rfl (fun hb => ?_) (fun hb => ?_)
    ·
      replace g_26 := Sh.ite_pos hb g_26
      refine WpOps.pn 3 rfl trivial ?_
      refine WpOps.nil ?_
      obtain rfl := Sh.some_inj g_26
      exact ⟨rfl, rfl⟩
    ·
      replace g_26 := Sh.ite_neg hb g_26
      refine WpOps.pn 3 rfl trivial ?_
      refine WpOps.nil ?_
      obtain rfl := Sh.some_inj g_26
      exact ⟨rfl, rfl⟩
  intro env
  obtain ⟨b_19, g_27, h⟩ := Sh.bind_some h
  refine WpOps.cutB 4 164 (bA b_19) rfl ?_ ?_
  ·
    refine WpOps.pn 1 rfl trivial ?_
    refine WpOps.split 161 rfl (fun hb => ?_) (fun hb => ?_)
    ·
      replace g_27 := Sh.ite_pos hb g_27
      refine WpOps.pn 3 rfl trivial ?_
      refine WpOps.nil ?_
      obtain rfl := Sh.some_inj g_27
      exact ⟨rfl, rfl⟩
    ·
      replace g_27 := Sh.ite_neg hb g_27
      refine WpOps.pn 3 rfl trivial ?_
      refine WpOps.nil ?_
      obtain rfl := Sh.some_inj g_27
      exact ⟨rfl, rfl⟩
  intro env
  obtain ⟨b_20, g_28, h⟩ := Sh.bind_some h
  refine WpOps.cutB 4 168 (bA b_20) rfl ?_ ?_
  ·
    refine WpOps.pn 1 rfl trivial ?_
    refine WpOps.split 165 rfl (fun hb => ?_) (fun hb => ?_)
    ·
      replace g_28 := Sh.ite_pos hb g_28
      refine WpOps.pn 3 rfl trivial ?_
      refine WpOps.nil ?_
      obtain rfl := Sh.some_inj g_28
      exact ⟨rfl, rfl⟩
    ·
      replace g_28 := Sh.ite_neg hb g_28
      refine WpOps.pn 3 rfl trivial ?_
      refine WpOps.nil ?_
      obtain rfl := Sh.some_inj g_28
      exact ⟨rfl, rfl⟩
  intro env
  obtain ⟨b_21, g_29, h⟩ := Sh.bind_some h
  refine WpOps.cutB 4 172 (bA b_21) rfl ?_ ?_
  ·
    refine WpOps.pn 1 rfl trivial ?_
    refine WpOps.split 169 rfl (fun hb => ?_) (fun hb => ?_)
    ·
      replace g_29 := Sh.ite_pos hb g_29
      refine WpOps.pn 3 rfl trivial ?_
      refine WpOps.nil ?_
      obtain rfl := Sh.some_inj g_29
      exact ⟨rfl, rfl⟩
    ·
      replace g_29 := Sh.ite_neg hb g_29
      refine WpOps.pn 3 rfl trivial ?_
      refine WpOps.nil ?_
      obtain rfl := Sh.some_inj g_29
      exact ⟨rfl, rfl⟩
  intro env
  obtain ⟨b_22, g_30, h⟩ := Sh.bind_some h
  refine WpOps.cutB 4 176 (bA b_22) rfl ?_ ?_
  ·
    refine WpOps.pn 1 rfl trivial ?_
    refine WpOps.split 173 rfl (fun hb => ?_) (fun hb => ?_)
    ·
      replace g_30 := Sh.ite_pos hb g_30
      refine WpOps.pn 3 rfl trivial ?_
      refine WpOps.nil ?_
      obtain rfl := Sh.some_inj g_30
      exact ⟨rfl, rfl⟩
    ·
      replace g_30 := Sh.ite_neg hb g_30
      refine WpOps.pn 3 rfl trivial ?_
      refine WpOps.nil ?_
      obtain rfl := Sh.some_inj g_30
      exact ⟨rfl, rfl⟩
  intro env
  obtain ⟨b_23, g_31, h⟩ := Sh.bind_some h
  refine WpOps.cutB 4 180 (bA b_23) rfl ?_ ?_
  ·
    refine WpOps.pn 1 rfl trivial ?_
    refine WpOps.split 177 rfl (fun hb => ?_) (fun hb => ?_)
    ·
      replace g_31 := Sh.ite_pos hb g_31
      refine WpOps.pn 3 rfl trivial ?_
      refine WpOps.nil ?_
      obtain rfl := Sh.some_inj g_31
      exact ⟨rfl, rfl⟩
    ·
      replace g_31 := Sh.ite_neg hb g_31
      refine WpOps.pn 3 rfl trivial ?_
      refine WpOps.nil ?_
      obtain rfl := Sh.some_inj g_31
      exact ⟨rfl, rfl⟩
  intro env
  obtain ⟨b_24, g_32, h⟩ := Sh.bind_some h
  refine WpOps.cutB 4 184 (bA b_24) rfl ?_ ?_
  ·
    refine WpOps.pn 1 rfl trivial ?_
    refine WpOps.split 181 rfl (fun hb => ?_) (fun hb => ?_)
    ·
      replace g_32 := Sh.ite_pos hb g_32
      refine WpOps.pn 3 rfl trivial ?_
      refine WpOps.nil ?_
      obtain rfl := Sh.some_inj g_32
      exact ⟨rfl, rfl⟩
    ·
      replace g_32 := Sh.ite_neg hb g_32
      refine WpOps.pn 3 rfl trivial ?_
      refine WpOps.nil ?_
      obtain rfl := Sh.some_inj g_32
      exact ⟨rfl, rfl⟩
  intro env
  refine WpOps.pn 1 rfl trivial ?_
  refine WpOps.nil ?_
  refine WpC.lose (i := 0) hH rfl (fun H' hH => ?_)
  refine WpC.lose (i := 0) hH rfl (fun H' hH => ?_)
  refine WpC.lose (i := 0) hH rfl (fun H' hH => ?_)
  refine WpC.lose (i := 0) hH rfl (fun H' hH => ?_)
  refine WpC.lose (i := 0) hH rfl (fun H' hH => ?_)
  refine WpC.lose (i := 0) hH rfl (fun H' hH => ?_)
  refine WpC.lose (i := 0) hH rfl (fun H' hH => ?_)
  refine WpC.lose (i := 0) hH rfl (fun H' hH => ?_)
  obtain rfl := Sh.some_inj h
  refine WpC.ret ?_
  exact VEnds.ret1 rfl rfl ⟨rfl, hH⟩

theorem w_emendref06_Param {H0 : Heap} {m_1 : GMacro} {name_1 : List UInt8} {r : Int} (h : emendref06_Param m_1 name_1 = some r) : TCall Tryd.prog 39 [(AV.agg (cGMacro m_1)), (sA name_1)] H0 (fun v H' => v = (iA r) ∧ H' = H0) noE := by
  refine id (TCall.body Tryd.func39 rfl rfl ?_)
  have hH : Holds H0 [] H0 := rfl
  refine WpC.seqR ?_
  refine WpOps.consG rfl rfl (WpO.boxT (v := (AV.agg (cGMacro m_1))) rfl rfl hH fun g_1 H' hH => ?_)
  refine WpOps.pn 1 rfl trivial ?_
  refine WpOps.nil ?_
  refine WpC.seq ?_
  refine WpC.seqR ?_
  refine WpOps.pn 1 rfl trivial ?_
  refine WpOps.consE (v := (bA m_1.variadic)) rfl rfl (Exact.load rfl rfl (hH.cell (i := 0) rfl) rfl rfl) ?_
  obtain ⟨b_1, g_2, h⟩ := Sh.bind_some h
  refine WpOps.cutB 4 11 (bA b_1) rfl ?_ ?_
  ·
    refine WpOps.pn 1 rfl trivial ?_
    refine WpOps.split 8 rfl (fun hb => ?_) (fun hb => ?_)
    ·
      replace g_2 := Sh.ite_pos hb g_2
      refine WpOps.pn 3 rfl trivial ?_
      refine WpOps.nil ?_
      obtain rfl := Sh.some_inj g_2
      exact ⟨rfl, rfl⟩
    ·
      replace g_2 := Sh.ite_neg hb g_2
      refine WpOps.pn 3 rfl trivial ?_
      refine WpOps.nil ?_
      obtain rfl := Sh.some_inj g_2
      exact ⟨rfl, rfl⟩
  intro env
  refine WpOps.nil ?_
  refine WpC.condB rfl (fun hb => ?_) (fun hb => ?_)
  ·
    replace h := Sh.ite_pos hb h
    refine WpC.seqR ?_
    refine WpOps.pn 1 rfl trivial ?_
    refine WpOps.consE (v := (AV.rows 1 (List.map cS m_1.params))) rfl rfl (Exact.load rfl rfl (hH.cell (i := 0) rfl) rfl rfl) ?_
    refine WpOps.pn 1 rfl trivial ?_
    refine WpOps.at 14 (len_map _ _) ?_
    refine WpOps.pn 1 rfl trivial ?_
    refine WpOps.nil ?_
    refine WpC.lose (i := 0) hH rfl (fun H' hH => ?_)
    obtain rfl := Sh.some_inj h
    refine WpC.ret ?_
    exact VEnds.ret1 rfl rfl ⟨rfl, hH⟩
  ·
    replace h := Sh.ite_neg hb h
    refine WpC.skipD ?_
    refine ⟨_, Heap.le_refl _, ?_⟩
    refine WpC.seq ?_
    refine WpC.seqR ?_
    refine WpOps.pn 1 rfl trivial ?_
    refine WpOps.nil ?_
    refine WpC.blockK (fun x : (Unit) × (Unit) => []) (fun x H' => emendref06_Param_j1 x.1 = some r ∧ Holds H0 [] H') ?_ ?_
    ·
      obtain ⟨o_1, ho_1, hk_1⟩ := Sh.bind_some h
      refine WpC.loopS (emendref06_Param_b2 m_1 name_1) (fun (s : Int) (a : Unit) => [(1, (sA name_1)), (2, (.lit (.pointer (some ⟨g_1, 0, none⟩)))), (5, (iA s))]) (fun (s : Int) (a : Unit) H' => Holds H0 [.cell g_1 44 (cGMacro m_1)] H') o_1 (0 : Int) () ho_1 ⟨rfl, rfl, rfl, trivial⟩ hH ?_
      rintro i_1 _ st_1 env H' h hd_1 hH
      refine WpC.seq ?_
      refine WpC.seqR ?_
      refine WpOps.pn 2 rfl trivial ?_
      refine WpOps.consE (v := (AV.rows 1 (List.map cS m_1.params))) rfl rfl (Exact.load rfl rfl (hH.cell (i := 0) rfl) rfl rfl) ?_
      refine WpOps.pn 1 rfl trivial ?_
      refine WpOps.at 18 (len_map _ _) ?_
      refine WpOps.pn 1 rfl trivial ?_
      refine WpOps.nil ?_
      refine WpC.condB rfl (fun hb => ?_) (fun hb => ?_)
      ·
        replace h := Sh.ite_pos hb h
        refine WpC.skipD ?_
        refine ⟨_, Heap.le_refl _, ?_⟩
        refine WpC.seq ?_
        refine WpC.block ?_
        refine WpC.seqR ?_
        refine WpOps.pn 1 rfl trivial ?_
        refine WpOps.consE (v := (AV.rows 1 (List.map cS m_1.params))) rfl rfl (Exact.load rfl rfl (hH.cell (i := 0) rfl) rfl rfl) ?_
        obtain ⟨y_1, hy_1, h⟩ := Sh.bind_some h
        refine WpOps.pn 1 rfl trivial ?_
        refine WpOps.consE (v := (.rop (cS y_1))) rfl rfl (Exact.ixr cS hy_1 rfl rfl rfl rfl (by kernel_rfl) (by decide)) ?_
        refine WpOps.consE (v := (sA y_1)) rfl rfl (Exact.load_rop rfl rfl rfl) ?_
        refine WpOps.pn 2 rfl trivial ?_
        refine WpOps.nil ?_
        refine WpC.condB rfl (fun hb => ?_) (fun hb => ?_)
        ·
          replace h := Sh.ite_pos hb h
          refine WpC.seqR ?_
          refine WpOps.pn 2 rfl trivial ?_
          refine WpOps.nil ?_
          refine WpC.lose (i := 0) hH rfl (fun H' hH => ?_)
          obtain rfl := Sh.some_inj h
          have e := hd_1 _ rfl
          subst e
          have h := hk_1
          obtain rfl := Sh.some_inj h
          refine WpC.ret ?_
          exact VEnds.ret1 rfl rfl ⟨rfl, hH⟩
        ·
          replace h := Sh.ite_neg hb h
          refine WpC.skipD ?_
          refine ⟨_, Heap.le_refl _, ?_⟩
          refine WpC.regionD ?_
          obtain ⟨c_1, h⟩ := Sh.chk_some h
          refine WpOps.pn 3 rfl c_1 ?_
          refine WpOps.nil ?_
          obtain rfl := Sh.some_inj h
          exact ⟨_, (Heap.le_refl _), (i_1 + (1 : Int)), (), rfl, ⟨rfl, rfl, rfl, trivial⟩, hH⟩
      ·
        replace h := Sh.ite_neg hb h
        refine WpC.lose (i := 0) hH rfl (fun H' hH => ?_)
        obtain rfl := Sh.some_inj h
        have e := hd_1 _ rfl
        subst e
        refine WpC.exit ?_
        exact ⟨((), ()), trivial, hk_1, hH⟩
    ·
      rintro ⟨_, _⟩ env H' ⟨h, hH⟩
      try dsimp only at h
      refine ⟨_, Heap.le_refl _, ?_⟩
      refine WpC.seqR ?_
      refine WpOps.pn 1 rfl trivial ?_
      refine WpOps.nil ?_
      obtain rfl := Sh.some_inj h
      refine WpC.ret ?_
      exact VEnds.ret1 rfl rfl ⟨rfl, hH⟩

theorem w_emendref06_sign {H0 : Heap} {l_1 : List GTok} {i_1 : Int} {s_1 : List UInt8} {r : Bool} (h : emendref06_sign l_1 i_1 s_1 = some r) : TCall Tryd.prog 53 [(AV.rows 6 (List.map cGTok l_1)), (iA i_1), (sA s_1)] H0 (fun v H' => v = (bA r) ∧ H' = H0) noE := by
  refine id (TCall.body Tryd.func53 rfl rfl ?_)
  have hH : Holds H0 [] H0 := rfl
  refine WpC.seqR ?_
  refine WpOps.pn 1 rfl trivial ?_
  refine WpOps.nil ?_
  refine WpC.seqR ?_
  refine WpOps.pn 3 rfl trivial ?_
  refine WpOps.at 9 (len_map _ _) ?_
  refine WpOps.pn 1 rfl trivial ?_
  obtain ⟨b_1, g_1, h⟩ := Sh.bind_some h
  refine WpOps.cutB 8 18 (bA b_1) rfl ?_ ?_
  ·
    refine WpOps.pn 1 rfl trivial ?_
    refine WpOps.split 11 rfl (fun hb => ?_) (fun hb => ?_)
    ·
      replace g_1 := Sh.ite_pos hb g_1
      obtain ⟨y_1, hy_1, g_1⟩ := Sh.bind_some g_1
      refine WpOps.pn 2 rfl trivial ?_
      refine WpOps.consE (v := (.rop (cGTok y_1))) rfl rfl (Exact.ixr cGTok hy_1 rfl rfl rfl rfl (by kernel_rfl) (by decide)) ?_
      refine WpOps.pn 1 rfl trivial ?_
      refine WpOps.consE (v := (iA y_1.kind)) rfl rfl (Exact.load_rop rfl rfl rfl) ?_
      refine WpOps.pn 2 rfl trivial ?_
      refine WpOps.nil ?_
      obtain rfl := Sh.some_inj g_1
      exact ⟨rfl, rfl⟩
    ·
      replace g_1 := Sh.ite_neg hb g_1
      refine WpOps.pn 7 rfl trivial ?_
      refine WpOps.nil ?_
      obtain rfl := Sh.some_inj g_1
      exact ⟨rfl, rfl⟩
  intro env
  obtain ⟨b_2, g_2, h⟩ := Sh.bind_some h
  refine WpOps.cutB 9 27 (bA b_2) rfl ?_ ?_
  ·
    refine WpOps.pn 1 rfl trivial ?_
    refine WpOps.split 19 rfl (fun hb => ?_) (fun hb => ?_)
    ·
      replace g_2 := Sh.ite_pos hb g_2
      obtain ⟨y_2, hy_2, g_2⟩ := Sh.bind_some g_2
      refine WpOps.pn 2 rfl trivial ?_
      refine WpOps.consE (v := (.rop (cGTok y_2))) rfl rfl (Exact.ixr cGTok hy_2 rfl rfl rfl rfl (by kernel_rfl) (by decide)) ?_
      refine WpOps.pn 1 rfl trivial ?_
      refine WpOps.consE (v := (sA y_2.text)) rfl rfl (Exact.load_rop rfl rfl rfl) ?_
      refine WpOps.pn 3 rfl trivial ?_
      refine WpOps.nil ?_
      obtain rfl := Sh.some_inj g_2
      exact ⟨rfl, rfl⟩
    ·
      replace g_2 := Sh.ite_neg hb g_2
      refine WpOps.pn 8 rfl trivial ?_
      refine WpOps.nil ?_
      obtain rfl := Sh.some_inj g_2
      exact ⟨rfl, rfl⟩
  intro env
  refine WpOps.pn 1 rfl trivial ?_
  refine WpOps.nil ?_
  obtain rfl := Sh.some_inj h
  refine WpC.ret ?_
  exact VEnds.ret1 rfl rfl ⟨rfl, hH⟩

theorem w_emendref06_params {H0 : Heap} {l_1 : List GTok} {r : List (List UInt8) × Bool × Int} (h : emendref06_params l_1 = some r) : TCall Tryd.prog 54 [(AV.rows 6 (List.map cGTok l_1))] H0 (fun v H' => v = (.tup [(AV.rows 1 (List.map cS r.1)), (bA r.2.1), (iA r.2.2)]) ∧ H' = H0) noE := by
  refine id (TCall.body Tryd.func54 rfl rfl ?_)
  have hH : Holds H0 [] H0 := rfl
  refine WpC.seqR ?_
  refine WpOps.pn 3 rfl trivial ?_
  refine WpOps.nil ?_
  refine WpC.seqR ?_
  obtain ⟨r_1, hr_1, h⟩ := Sh.bind_some h
  refine WpOps.pn 1 rfl trivial ?_
  refine WpOps.consE (v := (bA r_1)) rfl rfl (Exact.call rfl rfl rfl (w_emendref06_sign hr_1)) ?_
  refine WpOps.pn 1 rfl trivial ?_
  refine WpOps.nil ?_
  refine WpC.seq ?_
  refine WpC.seqR ?_
  refine WpOps.pn 1 rfl trivial ?_
  refine WpOps.nil ?_
  refine WpC.condB rfl (fun hb => ?_) (fun hb => ?_)
  ·
    replace h := Sh.ite_pos hb h
    refine WpC.seqR ?_
    refine WpOps.pn 3 rfl trivial ?_
    refine WpOps.nil ?_
    refine WpC.sub (t := 2) (Sub.nil 1) ?_
    obtain rfl := Sh.some_inj h
    refine WpC.ret ?_
    exact VEnds.ret3 rfl rfl rfl rfl ⟨rfl, hH⟩
  ·
    replace h := Sh.ite_neg hb h
    refine WpC.skipD ?_
    refine ⟨_, Heap.le_refl _, ?_⟩
    refine WpC.seqR ?_
    refine WpOps.pn 1 rfl trivial ?_
    have hH := hH.nil 9 1
    refine WpOps.nil ?_
    refine WpC.seqR ?_
    refine WpOps.pn 1 rfl trivial ?_
    refine WpOps.nil ?_
    refine WpC.seqB (fun x : (Unit) × (Unit) => []) (fun x H' => emendref06_params_j1 x.1 = some r ∧ Holds H0 [] H') ?_ ?_
    ·
      obtain ⟨o_1, ho_1, hk_1⟩ := Sh.bind_some h
      refine WpC.loopS (emendref06_params_b2 l_1) (fun (s : Int × List (List UInt8)) (a : (Option (Nat × Nat))) => [(0, (AV.rows 6 (List.map cGTok l_1))), (6, (.own (List.map cS s.2).length a)), (7, (iA s.1))]) (fun (s : Int × List (List UInt8)) (a : (Option (Nat × Nat))) H' => Holds H0 [.own 9 1 a (List.map cS s.2)] H') o_1 ((0 : Int), ([] : List (List UInt8))) none ho_1 ⟨rfl, rfl, rfl, trivial⟩ hH ?_
      rintro ⟨i_1, out_1⟩ p_1 st_1 env H' h hd_1 hH
      refine WpC.seq ?_
      refine WpC.seqR ?_
      refine WpOps.pn 3 rfl trivial ?_
      refine WpOps.at 18 (len_map _ _) ?_
      refine WpOps.pn 1 rfl trivial ?_
      refine WpOps.nil ?_
      refine WpC.condB rfl (fun hb => ?_) (fun hb => ?_)
      ·
        replace h := Sh.ite_pos hb h
        refine WpC.skipD ?_
        refine ⟨_, Heap.le_refl _, ?_⟩
        refine WpC.block ?_
        refine WpC.seqR ?_
        obtain ⟨r_2, hr_2, h⟩ := Sh.bind_some h
        refine WpOps.pn 2 rfl trivial ?_
        refine WpOps.consE (v := (bA r_2)) rfl rfl (Exact.call rfl rfl rfl (w_emendref06_sign hr_2)) ?_
        refine WpOps.pn 1 rfl trivial ?_
        refine WpOps.nil ?_
        refine WpC.seq ?_
        refine WpC.seqR ?_
        refine WpOps.pn 1 rfl trivial ?_
        refine WpOps.nil ?_
        refine WpC.condB rfl (fun hb => ?_) (fun hb => ?_)
        ·
          replace h := Sh.ite_pos hb h
          refine WpC.seqR ?_
          obtain ⟨c_1, h⟩ := Sh.chk_some h
          obtain ⟨r_3, hr_3, h⟩ := Sh.bind_some h
          refine WpOps.pn 3 rfl c_1 ?_
          refine WpOps.consE (v := (bA r_3)) rfl rfl (Exact.call rfl rfl rfl (w_emendref06_sign hr_3)) ?_
          refine WpOps.pn 1 rfl trivial ?_
          refine WpOps.nil ?_
          refine WpC.seq ?_
          refine WpC.seqR ?_
          refine WpOps.pn 1 rfl trivial ?_
          refine WpOps.nil ?_
          refine WpC.condB rfl (fun hb => ?_) (fun hb => ?_)
          ·
            replace h := Sh.ite_pos hb h
            refine WpC.seqR ?_
            obtain ⟨c_2, h⟩ := Sh.chk_some h
            refine WpOps.pn 6 rfl c_2 ?_
            refine WpOps.nil ?_
            refine WpC.freeze (t := 2) (i := 0) hH rfl rfl (fun H' hH => ?_)
            obtain rfl := Sh.some_inj h
            have e := hd_1 _ rfl
            subst e
            have h := hk_1
            obtain rfl := Sh.some_inj h
            refine WpC.ret ?_
            exact VEnds.ret3 rfl rfl rfl rfl ⟨rfl, hH⟩
          ·
            replace h := Sh.ite_neg hb h
            refine WpC.skipD ?_
            refine ⟨_, Heap.le_refl _, ?_⟩
            refine WpC.seqR ?_
            refine WpOps.pn 3 rfl trivial ?_
            refine WpOps.nil ?_
            refine WpC.sub (t := 2) (Sub.nil 1) ?_
            refine WpC.lose (i := 0) hH rfl (fun H' hH => ?_)
            obtain rfl := Sh.some_inj h
            have e := hd_1 _ rfl
            subst e
            have h := hk_1
            obtain rfl := Sh.some_inj h
            refine WpC.ret ?_
            exact VEnds.ret3 rfl rfl rfl rfl ⟨rfl, hH⟩
        ·
          replace h := Sh.ite_neg hb h
          refine WpC.skipD ?_
          refine ⟨_, Heap.le_refl _, ?_⟩
          refine WpC.seq ?_
          refine WpC.seqR ?_
          obtain ⟨y_1, hy_1, h⟩ := Sh.bind_some h
          refine WpOps.pn 2 rfl trivial ?_
          refine WpOps.consE (v := (.rop (cGTok y_1))) rfl rfl (Exact.ixr cGTok hy_1 rfl rfl rfl rfl (by kernel_rfl) (by decide)) ?_
          refine WpOps.pn 1 rfl trivial ?_
          refine WpOps.consE (v := (iA y_1.kind)) rfl rfl (Exact.load_rop rfl rfl rfl) ?_
          refine WpOps.pn 1 rfl trivial ?_
          obtain ⟨b_1, g_1, h⟩ := Sh.bind_some h
          refine WpOps.cutB 8 45 (bA b_1) rfl ?_ ?_
          ·
            refine WpOps.pn 1 rfl trivial ?_
            refine WpOps.split 38 rfl (fun hb => ?_) (fun hb => ?_)
            ·
              replace g_1 := Sh.ite_pos hb g_1
              refine WpOps.pn 7 rfl trivial ?_
              refine WpOps.nil ?_
              obtain rfl := Sh.some_inj g_1
              exact ⟨rfl, rfl⟩
            ·
              replace g_1 := Sh.ite_neg hb g_1
              obtain ⟨y_2, hy_2, g_1⟩ := Sh.bind_some g_1
              refine WpOps.pn 2 rfl trivial ?_
              refine WpOps.consE (v := (.rop (cGTok y_2))) rfl rfl (Exact.ixr cGTok hy_2 rfl rfl rfl rfl (by kernel_rfl) (by decide)) ?_
              refine WpOps.pn 1 rfl trivial ?_
              refine WpOps.consE (v := (sA y_2.text)) rfl rfl (Exact.load_rop rfl rfl rfl) ?_
              refine WpOps.pn 2 rfl trivial ?_
              refine WpOps.nil ?_
              obtain rfl := Sh.some_inj g_1
              exact ⟨rfl, rfl⟩
          intro env
          refine WpOps.nil ?_
          refine WpC.condB rfl (fun hb => ?_) (fun hb => ?_)
          ·
            replace h := Sh.ite_pos hb h
            refine WpC.seqR ?_
            refine WpOps.pn 3 rfl trivial ?_
            refine WpOps.nil ?_
            refine WpC.sub (t := 2) (Sub.nil 1) ?_
            refine WpC.lose (i := 0) hH rfl (fun H' hH => ?_)
            obtain rfl := Sh.some_inj h
            have e := hd_1 _ rfl
            subst e
            have h := hk_1
            obtain rfl := Sh.some_inj h
            refine WpC.ret ?_
            exact VEnds.ret3 rfl rfl rfl rfl ⟨rfl, hH⟩
          ·
            replace h := Sh.ite_neg hb h
            refine WpC.skipD ?_
            refine ⟨_, Heap.le_refl _, ?_⟩
            refine WpC.seq ?_
            refine WpC.seqR ?_
            refine WpOps.pn 1 rfl trivial ?_
            refine WpOps.nil ?_
            refine WpC.blockK (fun x : (Unit) × (Unit) => [(0, (AV.rows 6 (List.map cGTok l_1))), (6, (.own (List.map cS out_1).length p_1)), (7, (iA i_1))]) (fun x H' => (emendref06_params_j3 l_1 i_1 out_1) x.1 = some st_1 ∧ Holds H0 [.own 9 1 p_1 (List.map cS out_1)] H') ?_ ?_
            ·
              obtain ⟨o_2, ho_2, hk_2⟩ := Sh.bind_some h
              refine WpC.loopS (emendref06_params_b4 l_1 i_1 out_1) (fun (s : Int) (a : Unit) => [(0, (AV.rows 6 (List.map cGTok l_1))), (6, (.own (List.map cS out_1).length p_1)), (7, (iA i_1)), (10, (iA s))]) (fun (s : Int) (a : Unit) H' => Holds H0 [.own 9 1 p_1 (List.map cS out_1)] H') o_2 (0 : Int) () ho_2 ⟨rfl, rfl, rfl, rfl, trivial⟩ hH ?_
              rintro k_1 _ st_2 env H' h hd_2 hH
              refine WpC.seq ?_
              refine WpC.seqR ?_
              refine WpOps.pn 3 rfl trivial ?_
              refine WpOps.at 48 (len_map _ _) ?_
              refine WpOps.pn 1 rfl trivial ?_
              refine WpOps.nil ?_
              refine WpC.condB rfl (fun hb => ?_) (fun hb => ?_)
              ·
                replace h := Sh.ite_pos hb h
                refine WpC.skipD ?_
                refine ⟨_, Heap.le_refl _, ?_⟩
                refine WpC.seq ?_
                refine WpC.block ?_
                refine WpC.seqD [.I, .I, .S, .S] [0, 1, 2, 3, 4, 5, 6, 7, 8, 9] (by kernel_rfl) (by kernel_rfl) ?_
                obtain ⟨y_3, hy_3, h⟩ := Sh.bind_some h
                refine WpPi.pn 2 rfl trivial ?_
                have hq_1 := h; have hq_2 := hH
                obtain ⟨g_2, cp_1, rfl⟩ := hq_2.grown (i := 0) rfl (ne_of_ix hy_3)
                have h := hq_1; have hH := hq_2
                refine WpPi.consS rfl rfl rfl rfl (Exact.ixo (size := 1) cS hy_3 rfl rfl rfl rfl (by kernel_rfl) (by decide)) ?_
                refine WpPi.consS (v := (sA y_3)) rfl rfl rfl rfl (Exact.ldo (off := 0) (i := 0) cS hy_3 hH rfl rfl rfl (by decide) rfl) ?_
                obtain ⟨y_4, hy_4, h⟩ := Sh.bind_some h
                refine WpPi.pn 2 rfl trivial ?_
                refine WpPi.consI (v := (.rop (cGTok y_4))) rfl rfl rfl rfl (fun _ => Exact.ixr cGTok hy_4 rfl rfl rfl rfl (by kernel_rfl) (by decide)) ?_
                refine WpPi.pn 1 rfl trivial ?_
                refine WpPi.consI (v := (sA y_4.text)) rfl rfl rfl rfl (fun _ => Exact.load_rop rfl rfl rfl) ?_
                refine WpPi.pn 1 rfl trivial ?_
                refine WpPi.nil ?_
                refine WpC.condB rfl (fun hb => ?_) (fun hb => ?_)
                ·
                  replace h := Sh.ite_pos hb h
                  refine WpC.seqR ?_
                  refine WpOps.pn 3 rfl trivial ?_
                  refine WpOps.nil ?_
                  refine WpC.sub (t := 2) (Sub.nil 1) ?_
                  refine WpC.lose (i := 0) hH rfl (fun H' hH => ?_)
                  obtain rfl := Sh.some_inj h
                  have e := hd_2 _ rfl
                  subst e
                  have h := hk_2
                  obtain rfl := Sh.some_inj h
                  have e := hd_1 _ rfl
                  subst e
                  have h := hk_1
                  obtain rfl := Sh.some_inj h
                  refine WpC.ret ?_
                  exact VEnds.ret3 rfl rfl rfl rfl ⟨rfl, hH⟩
                ·
                  replace h := Sh.ite_neg hb h
                  refine WpC.skipD ?_
                  refine ⟨_, Heap.le_refl _, ?_⟩
                  refine WpC.regionD ?_
                  obtain ⟨c_3, h⟩ := Sh.chk_some h
                  refine WpOps.pn 3 rfl c_3 ?_
                  refine WpOps.nil ?_
                  obtain rfl := Sh.some_inj h
                  exact ⟨_, (Heap.le_refl _), (k_1 + (1 : Int)), (), rfl, ⟨rfl, rfl, rfl, rfl, trivial⟩, hH⟩
              ·
                replace h := Sh.ite_neg hb h
                obtain rfl := Sh.some_inj h
                have e := hd_2 _ rfl
                subst e
                refine WpC.exit ?_
                exact ⟨((), ()), ⟨rfl, rfl, rfl, trivial⟩, hk_2, hH⟩
            ·
              rintro ⟨_, _⟩ env H' ⟨h, hH⟩
              try dsimp only at h
              refine ⟨_, Heap.le_refl _, ?_⟩
              refine WpC.seqR ?_
              obtain ⟨y_5, hy_5, h⟩ := Sh.bind_some h
              refine WpOps.pn 3 rfl trivial ?_
              refine WpOps.consE (v := (.rop (cGTok y_5))) rfl rfl (Exact.ixr cGTok hy_5 rfl rfl rfl rfl (by kernel_rfl) (by decide)) ?_
              refine WpOps.pn 1 rfl trivial ?_
              refine WpOps.consE (v := (sA y_5.text)) rfl rfl (Exact.load_rop rfl rfl rfl) ?_
              refine WpOps.consE (v := (AV.rows 1 (List.map cS ([y_5.text] : List (List UInt8))))) rfl rfl (Exact.litSlice rfl (by kernel_rfl)) ?_
              obtain ⟨c_4, h⟩ := Sh.chk_some h
              refine WpOps.consG rfl rfl (WpO.pushT cS out_1 ([y_5.text] : List (List UInt8)) (i := 0) rfl ek42 hH rfl rfl rfl (.rows _) (fun y _ => one_cS y) (by simp) c_4 (by decide) fun p_2 H' hH => ?_)
              refine WpOps.pn 1 rfl trivial ?_
              refine WpOps.nil ?_
              refine WpC.seqR ?_
              obtain ⟨c_5, h⟩ := Sh.chk_some h
              obtain ⟨r_4, hr_4, h⟩ := Sh.bind_some h
              refine WpOps.pn 3 rfl c_5 ?_
              refine WpOps.consE (v := (bA r_4)) rfl rfl (Exact.call rfl rfl rfl (w_emendref06_sign hr_4)) ?_
              refine WpOps.pn 1 rfl trivial ?_
              refine WpOps.nil ?_
              refine WpC.seq ?_
              refine WpC.seqR ?_
              refine WpOps.pn 1 rfl trivial ?_
              refine WpOps.nil ?_
              refine WpC.condB rfl (fun hb => ?_) (fun hb => ?_)
              ·
                replace h := Sh.ite_pos hb h
                refine WpC.seqR ?_
                obtain ⟨c_6, h⟩ := Sh.chk_some h
                refine WpOps.pn 6 rfl c_6 ?_
                refine WpOps.nil ?_
                refine WpC.freeze (t := 2) (i := 0) hH rfl rfl (fun H' hH => ?_)
                obtain rfl := Sh.some_inj h
                have e := hd_1 _ rfl
                subst e
                have h := hk_1
                obtain rfl := Sh.some_inj h
                refine WpC.ret ?_
                exact VEnds.ret3 rfl rfl rfl rfl ⟨rfl, hH⟩
              ·
                replace h := Sh.ite_neg hb h
                refine WpC.skipD ?_
                refine ⟨_, Heap.le_refl _, ?_⟩
                refine WpC.seqR ?_
                obtain ⟨c_7, h⟩ := Sh.chk_some h
                obtain ⟨r_5, hr_5, h⟩ := Sh.bind_some h
                refine WpOps.pn 3 rfl c_7 ?_
                refine WpOps.consE (v := (bA r_5)) rfl rfl (Exact.call rfl rfl rfl (w_emendref06_sign hr_5)) ?_
                refine WpOps.pn 1 rfl trivial ?_
                refine WpOps.nil ?_
                refine WpC.seq ?_
                refine WpC.seqR ?_
                refine WpOps.pn 2 rfl trivial ?_
                refine WpOps.nil ?_
                refine WpC.condB rfl (fun hb => ?_) (fun hb => ?_)
                ·
                  replace h := Sh.ite_pos hb h
                  refine WpC.seqR ?_
                  refine WpOps.pn 3 rfl trivial ?_
                  refine WpOps.nil ?_
                  refine WpC.sub (t := 2) (Sub.nil 1) ?_
                  refine WpC.lose (i := 0) hH rfl (fun H' hH => ?_)
                  obtain rfl := Sh.some_inj h
                  have e := hd_1 _ rfl
                  subst e
                  have h := hk_1
                  obtain rfl := Sh.some_inj h
                  refine WpC.ret ?_
                  exact VEnds.ret3 rfl rfl rfl rfl ⟨rfl, hH⟩
                ·
                  replace h := Sh.ite_neg hb h
                  refine WpC.skipD ?_
                  refine ⟨_, Heap.le_refl _, ?_⟩
                  refine WpC.regionD ?_
                  obtain ⟨c_8, h⟩ := Sh.chk_some h
                  refine WpOps.pn 3 rfl c_8 ?_
                  refine WpOps.nil ?_
                  obtain rfl := Sh.some_inj h
                  exact ⟨_, (Heap.le_refl _), ((i_1 + (2 : Int)), (out_1 ++ ([y_5.text] : List (List UInt8)))), p_2, rfl, ⟨rfl, rfl, rfl, trivial⟩, hH⟩
      ·
        replace h := Sh.ite_neg hb h
        refine WpC.lose (i := 0) hH rfl (fun H' hH => ?_)
        obtain rfl := Sh.some_inj h
        have e := hd_1 _ rfl
        subst e
        refine WpC.exit ?_
        exact ⟨((), ()), trivial, hk_1, hH⟩
    ·
      rintro ⟨_, _⟩ env H' ⟨h, hH⟩
      try dsimp only at h
      refine WpC.seqR ?_
      refine WpOps.pn 3 rfl trivial ?_
      refine WpOps.nil ?_
      refine WpC.sub (t := 2) (Sub.nil 1) ?_
      obtain rfl := Sh.some_inj h
      refine WpC.ret ?_
      exact VEnds.ret3 rfl rfl rfl rfl ⟨rfl, hH⟩

theorem w_emendref06_Define {H0 : Heap} {l_1 : List GTok} {r : GMacro × Int} (h : emendref06_Define l_1 = some r) : TCall Tryd.prog 30 [(AV.rows 6 (List.map cGTok l_1))] H0 (fun v H' => v = (.tup [(AV.agg (cGMacro r.1)), (iA r.2)]) ∧ H' = H0) noE := by
  refine TCall.up (TCall.body Tryd.func30 rfl rfl ?_)
  have hH : Holds H0 [] H0 := rfl
  refine WpC.seqR ?_
  refine WpOps.consG rfl rfl (WpO.allocU (z' := cGMacro (GMacro.mk ([] : List UInt8) false ([] : List (List UInt8)) false ([] : List GTok))) rfl rfl (.cons (.refl _) (.cons (.refl _) (.cons (Sub.nil _) (.cons (.refl _) (.cons (Sub.nil _) .nil))))) hH fun g_1 H' hH => ?_)
  refine WpOps.pn 1 rfl trivial ?_
  refine WpOps.nil ?_
  refine WpC.seqR ?_
  refine WpOps.pn 1 rfl trivial ?_
  refine WpOps.consG rfl rfl (WpO.allocU (z' := cGMacro (GMacro.mk ([] : List UInt8) false ([] : List (List UInt8)) false ([] : List GTok))) rfl rfl (.cons (.refl _) (.cons (.refl _) (.cons (Sub.nil _) (.cons (.refl _) (.cons (Sub.nil _) .nil))))) hH fun g_2 H' hH => ?_)
  refine WpOps.consG rfl rfl (WpO.putU (cs' := cGMacro (GMacro.mk ([] : List UInt8) false ([] : List (List UInt8)) false ([] : List GTok))) rfl rfl hH (i := 0) rfl rfl rfl rfl rfl rfl rfl (.cons (.refl _) (.cons (.refl _) (.cons (Sub.nil _) (.cons (.refl _) (.cons (Sub.nil _) .nil))))) fun H' hH => ?_)
  refine WpOps.nil ?_
  refine WpC.seq ?_
  refine WpC.sub (t := 18) (u := (AV.agg (cGMacro (GMacro.mk ([] : List UInt8) false ([] : List (List UInt8)) false ([] : List GTok))))) (Sub.agg (.cons (.refl _) (.cons (.refl _) (.cons (Sub.nil _) (.cons (.refl _) (.cons (Sub.nil _) .nil)))))) ?_
  refine WpC.seqR ?_
  refine WpOps.pn 2 rfl trivial ?_
  refine WpOps.at 20 (len_map _ _) ?_
  refine WpOps.pn 1 rfl trivial ?_
  obtain ⟨b_1, g_3, h⟩ := Sh.bind_some h
  refine WpOps.cutB 7 28 (bA b_1) rfl ?_ ?_
  ·
    refine WpOps.pn 1 rfl trivial ?_
    refine WpOps.split 22 rfl (fun hb => ?_) (fun hb => ?_)
    ·
      replace g_3 := Sh.ite_pos hb g_3
      refine WpOps.pn 6 rfl trivial ?_
      refine WpOps.nil ?_
      obtain rfl := Sh.some_inj g_3
      exact ⟨rfl, rfl⟩
    ·
      replace g_3 := Sh.ite_neg hb g_3
      obtain ⟨y_1, hy_1, g_3⟩ := Sh.bind_some g_3
      refine WpOps.pn 1 rfl trivial ?_
      refine WpOps.consE (v := (.rop (cGTok y_1))) rfl rfl (Exact.ixr cGTok hy_1 rfl rfl rfl rfl (by kernel_rfl) (by decide)) ?_
      refine WpOps.pn 1 rfl trivial ?_
      refine WpOps.consE (v := (iA y_1.kind)) rfl rfl (Exact.load_rop rfl rfl rfl) ?_
      refine WpOps.pn 2 rfl trivial ?_
      refine WpOps.nil ?_
      obtain rfl := Sh.some_inj g_3
      exact ⟨rfl, rfl⟩
  intro env
  obtain ⟨b_2, g_4, h⟩ := Sh.bind_some h
  refine WpOps.cutB 7 35 (bA b_2) rfl ?_ ?_
  ·
    refine WpOps.pn 1 rfl trivial ?_
    refine WpOps.split 29 rfl (fun hb => ?_) (fun hb => ?_)
    ·
      replace g_4 := Sh.ite_pos hb g_4
      refine WpOps.pn 6 rfl trivial ?_
      refine WpOps.nil ?_
      obtain rfl := Sh.some_inj g_4
      exact ⟨rfl, rfl⟩
    ·
      replace g_4 := Sh.ite_neg hb g_4
      obtain ⟨y_2, hy_2, g_4⟩ := Sh.bind_some g_4
      refine WpOps.pn 1 rfl trivial ?_
      refine WpOps.consE (v := (.rop (cGTok y_2))) rfl rfl (Exact.ixr cGTok hy_2 rfl rfl rfl rfl (by kernel_rfl) (by decide)) ?_
      refine WpOps.pn 1 rfl trivial ?_
      refine WpOps.consE (v := (sA y_2.text)) rfl rfl (Exact.load_rop rfl rfl rfl) ?_
      refine WpOps.pn 2 rfl trivial ?_
      refine WpOps.nil ?_
      obtain rfl := Sh.some_inj g_4
      exact ⟨rfl, rfl⟩
  intro env
  obtain ⟨b_3, g_5, h⟩ := Sh.bind_some h
  refine WpOps.cutB 7 42 (bA b_3) rfl ?_ ?_
  ·
    refine WpOps.pn 1 rfl trivial ?_
    refine WpOps.split 36 rfl (fun hb => ?_) (fun hb => ?_)
    ·
      replace g_5 := Sh.ite_pos hb g_5
      refine WpOps.pn 6 rfl trivial ?_
      refine WpOps.nil ?_
      obtain rfl := Sh.some_inj g_5
      exact ⟨rfl, rfl⟩
    ·
      replace g_5 := Sh.ite_neg hb g_5
      obtain ⟨y_3, hy_3, g_5⟩ := Sh.bind_some g_5
      refine WpOps.pn 1 rfl trivial ?_
      refine WpOps.consE (v := (.rop (cGTok y_3))) rfl rfl (Exact.ixr cGTok hy_3 rfl rfl rfl rfl (by kernel_rfl) (by decide)) ?_
      refine WpOps.pn 1 rfl trivial ?_
      refine WpOps.consE (v := (sA y_3.text)) rfl rfl (Exact.load_rop rfl rfl rfl) ?_
      refine WpOps.pn 2 rfl trivial ?_
      refine WpOps.nil ?_
      obtain rfl := Sh.some_inj g_5
      exact ⟨rfl, rfl⟩
  intro env
  refine WpOps.nil ?_
  refine WpC.condB rfl (fun hb => ?_) (fun hb => ?_)
  ·
    replace h := Sh.ite_pos hb h
    refine WpC.seqR ?_
    refine WpOps.consE (v := (AV.agg (cGMacro (GMacro.mk ([] : List UInt8) false ([] : List (List UInt8)) false ([] : List GTok))))) rfl rfl (Exact.load rfl rfl (hH.cell (i := 0) rfl) rfl rfl) ?_
    refine WpOps.consG rfl rfl (WpO.putT (cs' := (cGMacro (GMacro.mk ([] : List UInt8) false ([] : List (List UInt8)) false ([] : List GTok)))) (v := (AV.agg (cGMacro (GMacro.mk ([] : List UInt8) false ([] : List (List UInt8)) false ([] : List GTok))))) rfl rfl hH (i := 1) rfl rfl rfl rfl rfl rfl rfl fun H' hH => ?_)
    refine WpOps.pn 1 rfl trivial ?_
    refine WpOps.nil ?_
    refine WpC.lose (i := 0) hH rfl (fun H' hH => ?_)
    obtain rfl := Sh.some_inj h
    refine WpC.ret ?_
    have hr := hH
    obtain ⟨_, hle_1, hx_1⟩ := hH.lose_ (i := 0) rfl
    exact VEnds.retG rfl (.cell rfl (hH.cell (i := 0) rfl) rfl rfl (.tmp rfl .nil)) ⟨_, _, Up.drop hle_1 _, rfl, hx_1⟩
  ·
    replace h := Sh.ite_neg hb h
    refine WpC.skipD ?_
    refine ⟨_, Heap.le_refl _, ?_⟩
    refine WpC.seqR ?_
    obtain ⟨y_4, hy_4, h⟩ := Sh.bind_some h
    refine WpOps.pn 1 rfl trivial ?_
    refine WpOps.consE (v := (.rop (cGTok y_4))) rfl rfl (Exact.ixr cGTok hy_4 rfl rfl rfl rfl (by kernel_rfl) (by decide)) ?_
    refine WpOps.pn 1 rfl trivial ?_
    refine WpOps.consE (v := (sA y_4.text)) rfl rfl (Exact.load_rop rfl rfl rfl) ?_
    refine WpOps.pn 1 rfl trivial ?_
    refine WpOps.consG rfl rfl (WpO.allocU (z' := [(sA ([] : List UInt8)), (bA false), (AV.rows 1 (List.map cS ([] : List (List UInt8)))), (bA false), .own 0 none]) rfl rfl (.cons (.refl _) (.cons (.refl _) (.cons (Sub.nil _) (.cons (.refl _) (.cons (.refl _) .nil))))) hH fun g_6 H' hH => ?_)
    have hH := hH.nil 38 6
    refine WpOps.consG rfl rfl (WpO.putU (cs' := [(sA y_4.text), (bA false), (AV.rows 1 (List.map cS ([] : List (List UInt8)))), (bA false), .own (List.map cGTok ([] : List GTok)).length none]) rfl rfl hH (i := 1) rfl rfl rfl rfl rfl rfl rfl (.cons (.refl _) (.cons (.refl _) (.cons (Sub.nil _) (.cons (.refl _) (.cons (.refl _) .nil))))) fun H' hH => ?_)
    refine WpOps.nil ?_
    refine WpC.sub (t := 48) (u := (AV.agg (cGMacro (GMacro.mk y_4.text false ([] : List (List UInt8)) false ([] : List GTok))))) (Sub.agg (.cons (.refl _) (.cons (.refl _) (.cons (Sub.nil _) (.cons (.refl _) (.cons (Sub.nil _) .nil)))))) ?_
    refine WpC.seqR ?_
    obtain ⟨c_1, h⟩ := Sh.chk_some h
    refine WpOps.pn 1 rfl trivial ?_
    refine WpOps.pn 1 rfl (show 0 ≤ (1 : Int) ∧ True ∧ True ∧ ((1 : Int)).toNat ≤ (List.map cGTok l_1).length ∧ True from ⟨(by omega), trivial, trivial, (by simp only [List.length_map]; omega), trivial⟩) ?_
    refine WpOps.at 50 (rows_drop 6 cGTok l_1 _) ?_
    refine WpOps.pn 1 rfl trivial ?_
    refine WpOps.nil ?_
    refine WpC.seqR ?_
    obtain ⟨r_1, hr_1, h⟩ := Sh.bind_some h
    refine WpOps.pn 1 rfl trivial ?_
    refine WpOps.consE (v := (bA r_1)) rfl rfl (Exact.call rfl rfl rfl (w_emendref06_sign hr_1)) ?_
    refine WpOps.pn 1 rfl trivial ?_
    refine WpOps.nil ?_
    refine WpC.seqK (fun x : (List GTok × GMacro × GMacro) × ((Option (Nat × Nat))) => [(2, (.lit (.pointer (some ⟨g_1, 0, none⟩)))), (4, (.lit (.pointer (some ⟨g_2, 0, none⟩)))), (5, (.lit (.pointer (some ⟨g_6, 0, none⟩)))), (6, (AV.rows 6 (List.map cGTok x.1.1)))]) (fun x H' => emendref06_Define_j1 x.1 = some r ∧ Holds H0 [.own 38 6 x.2 (List.map cGTok x.1.2.1.body), .cell g_6 44 [(sA x.1.2.1.name), (bA x.1.2.1.func), (AV.rows 1 (List.map cS x.1.2.1.params)), (bA x.1.2.1.variadic), .own (List.map cGTok x.1.2.1.body).length x.2], .cell g_2 44 (cGMacro (GMacro.mk ([] : List UInt8) false ([] : List (List UInt8)) false ([] : List GTok))), .cell g_1 44 (cGMacro x.1.2.2)] H') ?_ ?_
    ·
      refine WpC.seqR ?_
      refine WpOps.pn 1 rfl trivial ?_
      obtain ⟨b_4, g_7, h⟩ := Sh.bind_some h
      refine WpOps.cutB 7 60 (bA b_4) rfl ?_ ?_
      ·
        refine WpOps.pn 1 rfl trivial ?_
        refine WpOps.split 54 rfl (fun hb => ?_) (fun hb => ?_)
        ·
          replace g_7 := Sh.ite_pos hb g_7
          obtain ⟨y_5, hy_5, g_7⟩ := Sh.bind_some g_7
          refine WpOps.pn 1 rfl trivial ?_
          refine WpOps.consE (v := (.rop (cGTok y_5))) rfl rfl (Exact.ixr cGTok hy_5 rfl rfl rfl rfl (by kernel_rfl) (by decide)) ?_
          refine WpOps.pn 1 rfl trivial ?_
          refine WpOps.consE (v := (bA y_5.blank)) rfl rfl (Exact.load_rop rfl rfl rfl) ?_
          refine WpOps.pn 2 rfl trivial ?_
          refine WpOps.nil ?_
          obtain rfl := Sh.some_inj g_7
          exact ⟨rfl, rfl⟩
        ·
          replace g_7 := Sh.ite_neg hb g_7
          refine WpOps.pn 6 rfl trivial ?_
          refine WpOps.nil ?_
          obtain rfl := Sh.some_inj g_7
          exact ⟨rfl, rfl⟩
      intro env
      refine WpOps.nil ?_
      refine WpC.condB rfl (fun hb => ?_) (fun hb => ?_)
      ·
        replace h := Sh.ite_pos hb h
        refine WpC.seqR ?_
        obtain ⟨c_2, h⟩ := Sh.chk_some h
        refine WpOps.pn 1 rfl trivial ?_
        refine WpOps.pn 1 rfl (show 0 ≤ (1 : Int) ∧ True ∧ True ∧ ((1 : Int)).toNat ≤ (List.map cGTok (l_1.drop ((1 : Int)).toNat)).length ∧ True from ⟨(by omega), trivial, trivial, (by simp only [List.length_map]; omega), trivial⟩) ?_
        refine WpOps.at 63 (rows_drop 6 cGTok (l_1.drop ((1 : Int)).toNat) _) ?_
        obtain ⟨r_2, hr_2, h⟩ := Sh.bind_some h
        refine WpOps.consE (v := (.tup [(AV.rows 1 (List.map cS r_2.1)), (bA r_2.2.1), (iA r_2.2.2)])) rfl rfl (Exact.call rfl rfl rfl (w_emendref06_params hr_2)) ?_
        refine WpOps.pn 7 rfl trivial ?_
        refine WpOps.nil ?_
        refine WpC.seq ?_
        refine WpC.seqR ?_
        refine WpOps.pn 2 rfl trivial ?_
        refine WpOps.nil ?_
        refine WpC.condB rfl (fun hb => ?_) (fun hb => ?_)
        ·
          replace h := Sh.ite_pos hb h
          refine WpC.seqR ?_
          refine WpOps.consE (v := (AV.agg (cGMacro (GMacro.mk ([] : List UInt8) false ([] : List (List UInt8)) false ([] : List GTok))))) rfl rfl (Exact.load rfl rfl (hH.cell (i := 2) rfl) rfl rfl) ?_
          refine WpOps.consG rfl rfl (WpO.putT (cs' := (cGMacro (GMacro.mk ([] : List UInt8) false ([] : List (List UInt8)) false ([] : List GTok)))) (v := (AV.agg (cGMacro (GMacro.mk ([] : List UInt8) false ([] : List (List UInt8)) false ([] : List GTok))))) rfl rfl hH (i := 3) rfl rfl rfl rfl rfl rfl rfl fun H' hH => ?_)
          refine WpOps.pn 1 rfl trivial ?_
          refine WpOps.nil ?_
          refine WpC.lose (i := 0) hH rfl (fun H' hH => ?_)
          refine WpC.lose (i := 0) hH rfl (fun H' hH => ?_)
          refine WpC.lose (i := 0) hH rfl (fun H' hH => ?_)
          obtain rfl := Sh.some_inj h
          refine WpC.ret ?_
          have hr := hH
          obtain ⟨_, hle_2, hx_2⟩ := hH.lose_ (i := 0) rfl
          exact VEnds.retG rfl (.cell rfl (hH.cell (i := 0) rfl) rfl rfl (.tmp rfl .nil)) ⟨_, _, Up.drop hle_2 _, rfl, hx_2⟩
        ·
          replace h := Sh.ite_neg hb h
          refine WpC.skipD ?_
          refine ⟨_, Heap.le_refl _, ?_⟩
          refine WpC.seqR ?_
          refine WpOps.pn 1 rfl trivial ?_
          refine WpOps.consG rfl rfl (WpO.putT (cs' := [(sA y_4.text), (bA true), (AV.rows 1 (List.map cS ([] : List (List UInt8)))), (bA false), .own (List.map cGTok ([] : List GTok)).length none]) (v := (bA true)) rfl rfl hH (i := 1) rfl rfl rfl rfl rfl rfl rfl fun H' hH => ?_)
          refine WpOps.nil ?_
          refine WpC.seqR ?_
          refine WpOps.pn 2 rfl trivial ?_
          refine WpOps.consG rfl rfl (WpO.putT (cs' := [(sA y_4.text), (bA true), (AV.rows 1 (List.map cS r_2.1)), (bA false), .own (List.map cGTok ([] : List GTok)).length none]) (v := (AV.rows 1 (List.map cS r_2.1))) rfl rfl hH (i := 1) rfl rfl rfl rfl rfl rfl rfl fun H' hH => ?_)
          refine WpOps.nil ?_
          refine WpC.seqR ?_
          refine WpOps.pn 2 rfl trivial ?_
          refine WpOps.consG rfl rfl (WpO.putT (cs' := [(sA y_4.text), (bA true), (AV.rows 1 (List.map cS r_2.1)), (bA r_2.2.1), .own (List.map cGTok ([] : List GTok)).length none]) (v := (bA r_2.2.1)) rfl rfl hH (i := 1) rfl rfl rfl rfl rfl rfl rfl fun H' hH => ?_)
          refine WpOps.nil ?_
          refine WpC.regionD ?_
          obtain ⟨c_3, h⟩ := Sh.chk_some h
          obtain ⟨c_4, h⟩ := Sh.chk_some h
          refine WpOps.pn 3 rfl c_3 ?_
          refine WpOps.pn 1 rfl (show 0 ≤ ((1 : Int) + r_2.2.2) ∧ True ∧ True ∧ (((1 : Int) + r_2.2.2)).toNat ≤ (List.map cGTok (l_1.drop ((1 : Int)).toNat)).length ∧ True from ⟨(by omega), trivial, trivial, (by simp only [List.length_map]; omega), trivial⟩) ?_
          refine WpOps.at 79 (rows_drop 6 cGTok (l_1.drop ((1 : Int)).toNat) _) ?_
          refine WpOps.pn 1 rfl trivial ?_
          refine WpOps.nil ?_
          exact ⟨_, (Heap.le_refl _), ((((l_1.drop ((1 : Int)).toNat).drop (((1 : Int) + r_2.2.2)).toNat), (GMacro.mk y_4.text true r_2.1 r_2.2.1 ([] : List GTok)), (GMacro.mk ([] : List UInt8) false ([] : List (List UInt8)) false ([] : List GTok))), none), ⟨rfl, rfl, rfl, rfl, trivial⟩, h, hH⟩
      ·
        replace h := Sh.ite_neg hb h
        refine WpC.seqR ?_
        refine WpOps.pn 2 rfl trivial ?_
        refine WpOps.at 81 (len_map _ _) ?_
        refine WpOps.pn 1 rfl trivial ?_
        obtain ⟨b_5, g_8, h⟩ := Sh.bind_some h
        refine WpOps.cutB 7 89 (bA b_5) rfl ?_ ?_
        ·
          refine WpOps.pn 1 rfl trivial ?_
          refine WpOps.split 83 rfl (fun hb => ?_) (fun hb => ?_)
          ·
            replace g_8 := Sh.ite_pos hb g_8
            obtain ⟨y_6, hy_6, g_8⟩ := Sh.bind_some g_8
            refine WpOps.pn 1 rfl trivial ?_
            refine WpOps.consE (v := (.rop (cGTok y_6))) rfl rfl (Exact.ixr cGTok hy_6 rfl rfl rfl rfl (by kernel_rfl) (by decide)) ?_
            refine WpOps.pn 1 rfl trivial ?_
            refine WpOps.consE (v := (bA y_6.blank)) rfl rfl (Exact.load_rop rfl rfl rfl) ?_
            refine WpOps.pn 2 rfl trivial ?_
            refine WpOps.nil ?_
            obtain rfl := Sh.some_inj g_8
            exact ⟨rfl, rfl⟩
          ·
            replace g_8 := Sh.ite_neg hb g_8
            refine WpOps.pn 6 rfl trivial ?_
            refine WpOps.nil ?_
            obtain rfl := Sh.some_inj g_8
            exact ⟨rfl, rfl⟩
        intro env
        refine WpOps.nil ?_
        refine WpC.condB rfl (fun hb => ?_) (fun hb => ?_)
        ·
          replace h := Sh.ite_pos hb h
          refine WpC.seqR ?_
          refine WpOps.consE (v := (AV.agg (cGMacro (GMacro.mk ([] : List UInt8) false ([] : List (List UInt8)) false ([] : List GTok))))) rfl rfl (Exact.load rfl rfl (hH.cell (i := 2) rfl) rfl rfl) ?_
          refine WpOps.consG rfl rfl (WpO.putT (cs' := (cGMacro (GMacro.mk ([] : List UInt8) false ([] : List (List UInt8)) false ([] : List GTok)))) (v := (AV.agg (cGMacro (GMacro.mk ([] : List UInt8) false ([] : List (List UInt8)) false ([] : List GTok))))) rfl rfl hH (i := 3) rfl rfl rfl rfl rfl rfl rfl fun H' hH => ?_)
          refine WpOps.pn 1 rfl trivial ?_
          refine WpOps.nil ?_
          refine WpC.lose (i := 0) hH rfl (fun H' hH => ?_)
          refine WpC.lose (i := 0) hH rfl (fun H' hH => ?_)
          refine WpC.lose (i := 0) hH rfl (fun H' hH => ?_)
          obtain rfl := Sh.some_inj h
          refine WpC.ret ?_
          have hr := hH
          obtain ⟨_, hle_3, hx_3⟩ := hH.lose_ (i := 0) rfl
          exact VEnds.retG rfl (.cell rfl (hH.cell (i := 0) rfl) rfl rfl (.tmp rfl .nil)) ⟨_, _, Up.drop hle_3 _, rfl, hx_3⟩
        ·
          replace h := Sh.ite_neg hb h
          refine WpC.skipD ?_
          exact ⟨_, (Heap.le_refl _), (((l_1.drop ((1 : Int)).toNat), (GMacro.mk y_4.text false ([] : List (List UInt8)) false ([] : List GTok)), (GMacro.mk ([] : List UInt8) false ([] : List (List UInt8)) false ([] : List GTok))), none), ⟨rfl, rfl, rfl, rfl, trivial⟩, h, hH⟩
    ·
      rintro ⟨⟨rest_1, m_1, l_2⟩, p_1⟩ env H' ⟨h, hH⟩
      try dsimp only at h
      refine WpC.seq ?_
      refine WpC.seqR ?_
      refine WpOps.pn 1 rfl trivial ?_
      refine WpOps.nil ?_
      refine WpC.blockK (fun x : (GMacro) × ((Option (Nat × Nat))) => [(2, (.lit (.pointer (some ⟨g_1, 0, none⟩)))), (4, (.lit (.pointer (some ⟨g_2, 0, none⟩)))), (5, (.lit (.pointer (some ⟨g_6, 0, none⟩)))), (6, (AV.rows 6 (List.map cGTok rest_1)))]) (fun x H' => (emendref06_Define_j2 rest_1 l_2) x.1 = some r ∧ Holds H0 [.own 38 6 x.2 (List.map cGTok x.1.body), .cell g_6 44 [(sA x.1.name), (bA x.1.func), (AV.rows 1 (List.map cS x.1.params)), (bA x.1.variadic), .own (List.map cGTok x.1.body).length x.2], .cell g_2 44 (cGMacro (GMacro.mk ([] : List UInt8) false ([] : List (List UInt8)) false ([] : List GTok))), .cell g_1 44 (cGMacro l_2)] H') ?_ ?_
      ·
        obtain ⟨o_1, ho_1, hk_1⟩ := Sh.bind_some h
        refine WpC.loopS (emendref06_Define_b3 rest_1) (fun (s : Int × GMacro) (a : (Option (Nat × Nat))) => [(2, (.lit (.pointer (some ⟨g_1, 0, none⟩)))), (4, (.lit (.pointer (some ⟨g_2, 0, none⟩)))), (5, (.lit (.pointer (some ⟨g_6, 0, none⟩)))), (6, (AV.rows 6 (List.map cGTok rest_1))), (11, (iA s.1))]) (fun (s : Int × GMacro) (a : (Option (Nat × Nat))) H' => Holds H0 [.own 38 6 a (List.map cGTok s.2.body), .cell g_6 44 [(sA s.2.name), (bA s.2.func), (AV.rows 1 (List.map cS s.2.params)), (bA s.2.variadic), .own (List.map cGTok s.2.body).length a], .cell g_2 44 (cGMacro (GMacro.mk ([] : List UInt8) false ([] : List (List UInt8)) false ([] : List GTok))), .cell g_1 44 (cGMacro l_2)] H') o_1 ((0 : Int), m_1) p_1 ho_1 ⟨rfl, rfl, rfl, rfl, rfl, trivial⟩ hH ?_
        rintro ⟨i_1, m_2⟩ p_2 st_1 env H' h hd_1 hH
        refine WpC.seq ?_
        refine WpC.seqR ?_
        refine WpOps.pn 3 rfl trivial ?_
        refine WpOps.at 93 (len_map _ _) ?_
        refine WpOps.pn 1 rfl trivial ?_
        refine WpOps.nil ?_
        refine WpC.condB rfl (fun hb => ?_) (fun hb => ?_)
        ·
          replace h := Sh.ite_pos hb h
          refine WpC.skipD ?_
          refine ⟨_, Heap.le_refl _, ?_⟩
          refine WpC.seq ?_
          refine WpC.block ?_
          refine WpC.seqR ?_
          obtain ⟨y_7, hy_7, h⟩ := Sh.bind_some h
          refine WpOps.pn 2 rfl trivial ?_
          refine WpOps.consE (v := (.rop (cGTok y_7))) rfl rfl (Exact.ixr cGTok hy_7 rfl rfl rfl rfl (by kernel_rfl) (by decide)) ?_
          refine WpOps.consE (v := (AV.agg (cGTok y_7))) rfl rfl (Exact.load_rop rfl rfl rfl) ?_
          refine WpOps.consG rfl rfl (WpO.allocT (z := cGTok (GTok.mk (0 : Int) ([] : List UInt8) (0 : Int) (0 : Int) (0 : Int) false)) rfl rfl hH fun g_9 H' hH => ?_)
          refine WpOps.consG rfl rfl (WpO.putT (cs' := (cGTok y_7)) (v := (AV.agg (cGTok y_7))) rfl rfl hH (i := 0) rfl rfl rfl rfl rfl rfl rfl fun H' hH => ?_)
          refine WpOps.nil ?_
          refine WpC.seqK (fun x : (GTok) × (Unit) => [(2, (.lit (.pointer (some ⟨g_1, 0, none⟩)))), (4, (.lit (.pointer (some ⟨g_2, 0, none⟩)))), (5, (.lit (.pointer (some ⟨g_6, 0, none⟩)))), (6, (AV.rows 6 (List.map cGTok rest_1))), (11, (iA i_1)), (12, (.lit (.pointer (some ⟨g_9, 0, none⟩))))]) (fun x H' => (emendref06_Define_j4 i_1 m_2) x.1 = some st_1 ∧ Holds H0 [.cell g_9 38 (cGTok x.1), .own 38 6 p_2 (List.map cGTok m_2.body), .cell g_6 44 [(sA m_2.name), (bA m_2.func), (AV.rows 1 (List.map cS m_2.params)), (bA m_2.variadic), .own (List.map cGTok m_2.body).length p_2], .cell g_2 44 (cGMacro (GMacro.mk ([] : List UInt8) false ([] : List (List UInt8)) false ([] : List GTok))), .cell g_1 44 (cGMacro l_2)] H') ?_ ?_
          ·
            refine WpC.seqR ?_
            refine WpOps.pn 2 rfl trivial ?_
            refine WpOps.nil ?_
            refine WpC.condB rfl (fun hb => ?_) (fun hb => ?_)
            ·
              replace h := Sh.ite_pos hb h
              refine WpC.regionD ?_
              refine WpOps.pn 1 rfl trivial ?_
              refine WpOps.consG rfl rfl (WpO.putT (cs' := (cGTok (GTok.mk y_7.kind y_7.text y_7.file_ y_7.from_ y_7.to false))) (v := (bA false)) rfl rfl hH (i := 0) rfl rfl rfl rfl rfl rfl rfl fun H' hH => ?_)
              refine WpOps.nil ?_
              exact ⟨_, (Heap.le_refl _), ((GTok.mk y_7.kind y_7.text y_7.file_ y_7.from_ y_7.to false), ()), ⟨rfl, rfl, rfl, rfl, rfl, rfl, trivial⟩, h, hH⟩
            ·
              replace h := Sh.ite_neg hb h
              refine WpC.skipD ?_
              exact ⟨_, (Heap.le_refl _), (y_7, ()), ⟨rfl, rfl, rfl, rfl, rfl, rfl, trivial⟩, h, hH⟩
          ·
            rintro ⟨l_3, _⟩ env H' ⟨h, hH⟩
            try dsimp only at h
            refine WpC.regionD ?_
            refine WpOps.pn 1 rfl trivial ?_
            refine WpOps.consE (v := (.own (List.map cGTok m_2.body).length p_2)) rfl rfl (Exact.load rfl rfl (hH.cell (i := 2) rfl) rfl rfl) ?_
            refine WpOps.consE (v := (AV.agg (cGTok l_3))) rfl rfl (Exact.load rfl rfl (hH.cell (i := 0) rfl) rfl rfl) ?_
            refine WpOps.consE (v := (AV.rows 6 (List.map cGTok ([l_3] : List GTok)))) rfl rfl (Exact.litSlice rfl (by kernel_rfl)) ?_
            obtain ⟨c_5, h⟩ := Sh.chk_some h
            refine WpOps.consG rfl rfl (WpO.pushT cGTok m_2.body ([l_3] : List GTok) (i := 1) rfl ek25 hH rfl rfl rfl (.rows _) (fun y _ => one_cGTok y) (by simp) c_5 (by decide) fun p_3 H' hH => ?_)
            refine WpOps.pn 1 rfl trivial ?_
            refine WpOps.consG rfl rfl (WpO.putT (cs' := [(sA m_2.name), (bA m_2.func), (AV.rows 1 (List.map cS m_2.params)), (bA m_2.variadic), .own (List.map cGTok (m_2.body ++ ([l_3] : List GTok))).length p_3]) rfl rfl hH (i := 2) rfl rfl rfl rfl rfl rfl rfl fun H' hH => ?_)
            refine WpOps.nil ?_
            refine ⟨_, Heap.le_refl _, ?_⟩
            refine WpC.regionD ?_
            obtain ⟨c_6, h⟩ := Sh.chk_some h
            refine WpOps.pn 3 rfl c_6 ?_
            refine WpOps.nil ?_
            obtain ⟨_, hle_4, hH⟩ := hH.lose_ (i := 0) rfl
            obtain rfl := Sh.some_inj h
            exact ⟨_, hle_4, ((i_1 + (1 : Int)), (GMacro.mk m_2.name m_2.func m_2.params m_2.variadic (m_2.body ++ ([l_3] : List GTok)))), p_3, rfl, ⟨rfl, rfl, rfl, rfl, rfl, trivial⟩, hH⟩
        ·
          replace h := Sh.ite_neg hb h
          obtain rfl := Sh.some_inj h
          have e := hd_1 _ rfl
          subst e
          refine WpC.exit ?_
          exact ⟨(m_2, p_2), ⟨rfl, rfl, rfl, rfl, trivial⟩, hk_1, hH⟩
      ·
        rintro ⟨m_3, p_4⟩ env H' ⟨h, hH⟩
        try dsimp only at h
        refine ⟨_, Heap.le_refl _, ?_⟩
        refine WpC.seqK (fun x : (GMacro) × (Unit) => [(2, (.lit (.pointer (some ⟨g_1, 0, none⟩)))), (4, (.lit (.pointer (some ⟨g_2, 0, none⟩)))), (5, (.lit (.pointer (some ⟨g_6, 0, none⟩)))), (6, (AV.rows 6 (List.map cGTok rest_1)))]) (fun x H' => (emendref06_Define_j5 rest_1 m_3) x.1 = some r ∧ Holds H0 [.own 38 6 p_4 (List.map cGTok m_3.body), .cell g_6 44 [(sA m_3.name), (bA m_3.func), (AV.rows 1 (List.map cS m_3.params)), (bA m_3.variadic), .own (List.map cGTok m_3.body).length p_4], .cell g_2 44 (cGMacro (GMacro.mk ([] : List UInt8) false ([] : List (List UInt8)) false ([] : List GTok))), .cell g_1 44 (cGMacro x.1)] H') ?_ ?_
        ·
          refine WpC.seqR ?_
          refine WpOps.pn 2 rfl trivial ?_
          refine WpOps.at 111 (len_map _ _) ?_
          refine WpOps.pn 1 rfl trivial ?_
          refine WpOps.nil ?_
          refine WpC.condB rfl (fun hb => ?_) (fun hb => ?_)
          ·
            replace h := Sh.ite_pos hb h
            refine WpC.seqR ?_
            obtain ⟨r_3, hr_3, h⟩ := Sh.bind_some h
            refine WpOps.pn 1 rfl trivial ?_
            refine WpOps.consE (v := (bA r_3)) rfl rfl (Exact.call rfl rfl rfl (w_emendref06_sign hr_3)) ?_
            refine WpOps.pn 1 rfl trivial ?_
            refine WpOps.nil ?_
            refine WpC.seqR ?_
            refine WpOps.pn 3 rfl trivial ?_
            refine WpOps.at 117 (len_map _ _) ?_
            obtain ⟨c_7, h⟩ := Sh.chk_some h
            obtain ⟨r_4, hr_4, h⟩ := Sh.bind_some h
            refine WpOps.pn 1 rfl c_7 ?_
            refine WpOps.consE (v := (bA r_4)) rfl rfl (Exact.call rfl rfl rfl (w_emendref06_sign hr_4)) ?_
            refine WpOps.pn 1 rfl trivial ?_
            refine WpOps.nil ?_
            refine WpC.seqR ?_
            refine WpOps.pn 1 rfl trivial ?_
            obtain ⟨b_6, g_10, h⟩ := Sh.bind_some h
            refine WpOps.cutB 3 123 (bA b_6) rfl ?_ ?_
            ·
              refine WpOps.pn 1 rfl trivial ?_
              refine WpOps.split 121 rfl (fun hb => ?_) (fun hb => ?_)
              ·
                replace g_10 := Sh.ite_pos hb g_10
                refine WpOps.pn 2 rfl trivial ?_
                refine WpOps.nil ?_
                obtain rfl := Sh.some_inj g_10
                exact ⟨rfl, rfl⟩
              ·
                replace g_10 := Sh.ite_neg hb g_10
                refine WpOps.pn 2 rfl trivial ?_
                refine WpOps.nil ?_
                obtain rfl := Sh.some_inj g_10
                exact ⟨rfl, rfl⟩
            intro env
            refine WpOps.nil ?_
            refine WpC.condB rfl (fun hb => ?_) (fun hb => ?_)
            ·
              replace h := Sh.ite_pos hb h
              refine WpC.seqR ?_
              refine WpOps.consE (v := (AV.agg (cGMacro (GMacro.mk ([] : List UInt8) false ([] : List (List UInt8)) false ([] : List GTok))))) rfl rfl (Exact.load rfl rfl (hH.cell (i := 2) rfl) rfl rfl) ?_
              refine WpOps.consG rfl rfl (WpO.putT (cs' := (cGMacro (GMacro.mk ([] : List UInt8) false ([] : List (List UInt8)) false ([] : List GTok)))) (v := (AV.agg (cGMacro (GMacro.mk ([] : List UInt8) false ([] : List (List UInt8)) false ([] : List GTok))))) rfl rfl hH (i := 3) rfl rfl rfl rfl rfl rfl rfl fun H' hH => ?_)
              refine WpOps.pn 1 rfl trivial ?_
              refine WpOps.nil ?_
              refine WpC.lose (i := 0) hH rfl (fun H' hH => ?_)
              refine WpC.lose (i := 0) hH rfl (fun H' hH => ?_)
              refine WpC.lose (i := 0) hH rfl (fun H' hH => ?_)
              obtain rfl := Sh.some_inj h
              refine WpC.ret ?_
              have hr := hH
              obtain ⟨_, hle_5, hx_4⟩ := hH.lose_ (i := 0) rfl
              exact VEnds.retG rfl (.cell rfl (hH.cell (i := 0) rfl) rfl rfl (.tmp rfl .nil)) ⟨_, _, Up.drop hle_5 _, rfl, hx_4⟩
            ·
              replace h := Sh.ite_neg hb h
              refine WpC.skipD ?_
              exact ⟨_, (Heap.le_refl _), (l_2, ()), ⟨rfl, rfl, rfl, rfl, trivial⟩, h, hH⟩
          ·
            replace h := Sh.ite_neg hb h
            refine WpC.skipD ?_
            exact ⟨_, (Heap.le_refl _), (l_2, ()), ⟨rfl, rfl, rfl, rfl, trivial⟩, h, hH⟩
        ·
          rintro ⟨l_4, _⟩ env H' ⟨h, hH⟩
          try dsimp only at h
          refine WpC.seq ?_
          refine WpC.seqR ?_
          refine WpOps.pn 1 rfl trivial ?_
          refine WpOps.nil ?_
          refine WpC.freezeC (i := 0) (j := 0) (k := 4) hH rfl rfl rfl (fun H' hH => ?_)
          have hH : Holds H0 [.cell g_6 44 (cGMacro m_3), .cell g_2 44 (cGMacro (GMacro.mk ([] : List UInt8) false ([] : List (List UInt8)) false ([] : List GTok))), .cell g_1 44 (cGMacro l_4)] _ := hH
          refine WpC.blockK (fun x : (GMacro) × (Unit) => [(2, (.lit (.pointer (some ⟨g_1, 0, none⟩)))), (4, (.lit (.pointer (some ⟨g_2, 0, none⟩)))), (5, (.lit (.pointer (some ⟨g_6, 0, none⟩)))), (6, (AV.rows 6 (List.map cGTok rest_1)))]) (fun x H' => (emendref06_Define_j6 rest_1 m_3) x.1 = some r ∧ Holds H0 [.cell g_6 44 (cGMacro m_3), .cell g_2 44 (cGMacro (GMacro.mk ([] : List UInt8) false ([] : List (List UInt8)) false ([] : List GTok))), .cell g_1 44 (cGMacro x.1)] H') ?_ ?_
          ·
            obtain ⟨o_2, ho_2, hk_2⟩ := Sh.bind_some h
            refine WpC.loopS (emendref06_Define_b7 rest_1 m_3) (fun (s : Int × GMacro) (a : Unit) => [(2, (.lit (.pointer (some ⟨g_1, 0, none⟩)))), (4, (.lit (.pointer (some ⟨g_2, 0, none⟩)))), (5, (.lit (.pointer (some ⟨g_6, 0, none⟩)))), (6, (AV.rows 6 (List.map cGTok rest_1))), (15, (iA s.1))]) (fun (s : Int × GMacro) (a : Unit) H' => Holds H0 [.cell g_6 44 (cGMacro m_3), .cell g_2 44 (cGMacro (GMacro.mk ([] : List UInt8) false ([] : List (List UInt8)) false ([] : List GTok))), .cell g_1 44 (cGMacro s.2)] H') o_2 ((0 : Int), l_4) () ho_2 ⟨rfl, rfl, rfl, rfl, rfl, trivial⟩ hH ?_
            rintro ⟨i_2, l_5⟩ _ st_2 env H' h hd_2 hH
            refine WpC.seq ?_
            refine WpC.seqR ?_
            refine WpOps.pn 1 rfl trivial ?_
            refine WpOps.consE (v := (bA m_3.func)) rfl rfl (Exact.load rfl rfl (hH.cell (i := 0) rfl) rfl rfl) ?_
            obtain ⟨b_7, g_11, h⟩ := Sh.bind_some h
            refine WpOps.cutB 6 132 (bA b_7) rfl ?_ ?_
            ·
              refine WpOps.pn 1 rfl trivial ?_
              refine WpOps.split 127 rfl (fun hb => ?_) (fun hb => ?_)
              ·
                replace g_11 := Sh.ite_pos hb g_11
                refine WpOps.pn 3 rfl trivial ?_
                refine WpOps.at 130 (len_map _ _) ?_
                refine WpOps.pn 2 rfl trivial ?_
                refine WpOps.nil ?_
                obtain rfl := Sh.some_inj g_11
                exact ⟨rfl, rfl⟩
              ·
                replace g_11 := Sh.ite_neg hb g_11
                refine WpOps.pn 5 rfl trivial ?_
                refine WpOps.nil ?_
                obtain rfl := Sh.some_inj g_11
                exact ⟨rfl, rfl⟩
            intro env
            refine WpOps.nil ?_
            refine WpC.condB rfl (fun hb => ?_) (fun hb => ?_)
            ·
              replace h := Sh.ite_pos hb h
              refine WpC.skipD ?_
              refine ⟨_, Heap.le_refl _, ?_⟩
              refine WpC.seq ?_
              refine WpC.block ?_
              refine WpC.seqR ?_
              obtain ⟨r_5, hr_5, h⟩ := Sh.bind_some h
              refine WpOps.pn 2 rfl trivial ?_
              refine WpOps.consE (v := (bA r_5)) rfl rfl (Exact.call rfl rfl rfl (w_emendref06_sign hr_5)) ?_
              refine WpOps.pn 1 rfl trivial ?_
              refine WpOps.nil ?_
              refine WpC.seqD [.I, .I, .I, .I, .I, .I, .I, .I, .I, .I, .I, .I, .I, .I, .I, .I, .I, .S] [0, 1, 2, 3, 4, 5, 6, 7, 8, 9, 10, 11, 12, 13, 14, 15, 16, 17, 18, 19, 20, 21, 22, 23, 24, 25, 26, 27] (by kernel_rfl) (by kernel_rfl) ?_
              refine WpPi.pn 1 rfl trivial ?_
              obtain ⟨b_8, g_12, h⟩ := Sh.bind_some h
              refine WpPi.cutB 27 165 (bA b_8) rfl ?_ ?_
              ·
                refine WpPi.pn 1 rfl trivial ?_
                refine WpPi.split 139 rfl (fun hb => ?_) (fun hb => ?_)
                ·
                  replace g_12 := Sh.ite_pos hb g_12
                  obtain ⟨c_8, g_12⟩ := Sh.chk_some g_12
                  refine WpPi.pn 4 rfl c_8 ?_
                  refine WpPi.at 143 (len_map _ _) ?_
                  refine WpPi.pn 1 rfl trivial ?_
                  obtain ⟨b_9, g_13, g_12⟩ := Sh.bind_some g_12
                  refine WpPi.cutB 9 153 (bA b_9) rfl ?_ ?_
                  ·
                    refine WpPi.pn 1 rfl trivial ?_
                    refine WpPi.split 145 rfl (fun hb => ?_) (fun hb => ?_)
                    ·
                      replace g_13 := Sh.ite_pos hb g_13
                      refine WpPi.pn 3 rfl trivial ?_
                      refine WpPi.skip rfl rfl rfl ?_
                      refine WpPi.pn 1 rfl trivial ?_
                      refine WpPi.skip rfl rfl rfl ?_
                      refine WpPi.pn 2 rfl trivial ?_
                      refine WpPi.nil ?_
                      obtain rfl := Sh.some_inj g_13
                      exact ⟨rfl, rfl⟩
                    ·
                      replace g_13 := Sh.ite_neg hb g_13
                      obtain ⟨c_9, g_13⟩ := Sh.chk_some g_13
                      obtain ⟨y_8, hy_8, g_13⟩ := Sh.bind_some g_13
                      refine WpPi.pn 3 rfl c_9 ?_
                      refine WpPi.consI (v := (.rop (cGTok y_8))) rfl rfl rfl rfl (fun _ => Exact.ixr cGTok hy_8 rfl rfl rfl rfl (by kernel_rfl) (by decide)) ?_
                      refine WpPi.pn 1 rfl trivial ?_
                      refine WpPi.consI (v := (iA y_8.kind)) rfl rfl rfl rfl (fun _ => Exact.load_rop rfl rfl rfl) ?_
                      refine WpPi.pn 2 rfl trivial ?_
                      refine WpPi.nil ?_
                      obtain rfl := Sh.some_inj g_13
                      exact ⟨rfl, rfl⟩
                  intro env
                  obtain ⟨b_10, g_14, g_12⟩ := Sh.bind_some g_12
                  refine WpPi.cutB 11 164 (bA b_10) rfl ?_ ?_
                  ·
                    refine WpPi.pn 1 rfl trivial ?_
                    refine WpPi.split 154 rfl (fun hb => ?_) (fun hb => ?_)
                    ·
                      replace g_14 := Sh.ite_pos hb g_14
                      refine WpPi.skip rfl rfl rfl ?_
                      refine WpPi.pn 3 rfl trivial ?_
                      refine WpPi.skip rfl rfl rfl ?_
                      refine WpPi.pn 1 rfl trivial ?_
                      refine WpPi.skip rfl rfl rfl ?_
                      refine WpPi.skip rfl rfl rfl ?_
                      refine WpPi.pn 2 rfl trivial ?_
                      refine WpPi.nil ?_
                      obtain rfl := Sh.some_inj g_14
                      exact ⟨rfl, rfl⟩
                    ·
                      replace g_14 := Sh.ite_neg hb g_14
                      refine WpPi.consS (v := (AV.agg (cGMacro m_3))) rfl rfl rfl rfl (Exact.load rfl rfl (hH.cell (i := 0) rfl) rfl rfl) ?_
                      obtain ⟨c_10, g_14⟩ := Sh.chk_some g_14
                      obtain ⟨y_9, hy_9, g_14⟩ := Sh.bind_some g_14
                      refine WpPi.pn 3 rfl c_10 ?_
                      refine WpPi.consI (v := (.rop (cGTok y_9))) rfl rfl rfl rfl (fun _ => Exact.ixr cGTok hy_9 rfl rfl rfl rfl (by kernel_rfl) (by decide)) ?_
                      refine WpPi.pn 1 rfl trivial ?_
                      refine WpPi.consI (v := (sA y_9.text)) rfl rfl rfl rfl (fun _ => Exact.load_rop rfl rfl rfl) ?_
                      obtain ⟨r_6, hr_6, g_14⟩ := Sh.bind_some g_14
                      refine WpPi.consI (v := (iA r_6)) rfl rfl rfl rfl (fun _ => Exact.call rfl rfl rfl (w_emendref06_Param hr_6)) ?_
                      refine WpPi.pn 2 rfl trivial ?_
                      refine WpPi.nil ?_
                      obtain rfl := Sh.some_inj g_14
                      exact ⟨rfl, rfl⟩
                  intro env
                  refine WpPi.pn 1 rfl trivial ?_
                  refine WpPi.nil ?_
                  obtain rfl := Sh.some_inj g_12
                  exact ⟨rfl, rfl⟩
                ·
                  replace g_12 := Sh.ite_neg hb g_12
                  refine WpPi.pn 9 rfl trivial ?_
                  refine WpPi.skip rfl rfl rfl ?_
                  refine WpPi.pn 1 rfl trivial ?_
                  refine WpPi.skip rfl rfl rfl ?_
                  refine WpPi.pn 3 rfl trivial ?_
                  refine WpPi.skip rfl rfl rfl ?_
                  refine WpPi.pn 3 rfl trivial ?_
                  refine WpPi.skip rfl rfl rfl ?_
                  refine WpPi.pn 1 rfl trivial ?_
                  refine WpPi.skip rfl rfl rfl ?_
                  refine WpPi.skip rfl rfl rfl ?_
                  refine WpPi.pn 3 rfl trivial ?_
                  refine WpPi.nil ?_
                  obtain rfl := Sh.some_inj g_12
                  exact ⟨rfl, rfl⟩
              intro env
              refine WpPi.nil ?_
              refine WpC.condB rfl (fun hb => ?_) (fun hb => ?_)
              ·
                replace h := Sh.ite_pos hb h
                refine WpC.seqR ?_
                refine WpOps.consE (v := (AV.agg (cGMacro (GMacro.mk ([] : List UInt8) false ([] : List (List UInt8)) false ([] : List GTok))))) rfl rfl (Exact.load rfl rfl (hH.cell (i := 1) rfl) rfl rfl) ?_
                refine WpOps.consG rfl rfl (WpO.putT (cs' := (cGMacro (GMacro.mk ([] : List UInt8) false ([] : List (List UInt8)) false ([] : List GTok)))) (v := (AV.agg (cGMacro (GMacro.mk ([] : List UInt8) false ([] : List (List UInt8)) false ([] : List GTok))))) rfl rfl hH (i := 2) rfl rfl rfl rfl rfl rfl rfl fun H' hH => ?_)
                refine WpOps.pn 1 rfl trivial ?_
                refine WpOps.nil ?_
                refine WpC.lose (i := 0) hH rfl (fun H' hH => ?_)
                refine WpC.lose (i := 0) hH rfl (fun H' hH => ?_)
                obtain rfl := Sh.some_inj h
                have e := hd_2 _ rfl
                subst e
                have h := hk_2
                obtain rfl := Sh.some_inj h
                refine WpC.ret ?_
                have hr := hH
                obtain ⟨_, hle_6, hx_5⟩ := hH.lose_ (i := 0) rfl
                exact VEnds.retG rfl (.cell rfl (hH.cell (i := 0) rfl) rfl rfl (.tmp rfl .nil)) ⟨_, _, Up.drop hle_6 _, rfl, hx_5⟩
              ·
                replace h := Sh.ite_neg hb h
                refine WpC.skipD ?_
                refine ⟨_, Heap.le_refl _, ?_⟩
                refine WpC.regionD ?_
                obtain ⟨c_11, h⟩ := Sh.chk_some h
                refine WpOps.pn 3 rfl c_11 ?_
                refine WpOps.nil ?_
                obtain rfl := Sh.some_inj h
                exact ⟨_, (Heap.le_refl _), ((i_2 + (1 : Int)), l_5), (), rfl, ⟨rfl, rfl, rfl, rfl, rfl, trivial⟩, hH⟩
            ·
              replace h := Sh.ite_neg hb h
              obtain rfl := Sh.some_inj h
              have e := hd_2 _ rfl
              subst e
              refine WpC.exit ?_
              exact ⟨(l_5, ()), ⟨rfl, rfl, rfl, rfl, trivial⟩, hk_2, hH⟩
          ·
            rintro ⟨l_6, _⟩ env H' ⟨h, hH⟩
            try dsimp only at h
            refine ⟨_, Heap.le_refl _, ?_⟩
            refine WpC.seq ?_
            refine WpC.seqR ?_
            refine WpOps.pn 1 rfl trivial ?_
            refine WpOps.nil ?_
            refine WpC.blockK (fun x : (GMacro) × (Unit) => [(2, (.lit (.pointer (some ⟨g_1, 0, none⟩)))), (5, (.lit (.pointer (some ⟨g_6, 0, none⟩))))]) (fun x H' => (emendref06_Define_j8 m_3) x.1 = some r ∧ Holds H0 [.cell g_6 44 (cGMacro m_3), .cell g_1 44 (cGMacro x.1)] H') ?_ ?_
            ·
              obtain ⟨o_3, ho_3, hk_3⟩ := Sh.bind_some h
              refine WpC.loopS (emendref06_Define_b9 rest_1 m_3) (fun (s : Int × GMacro) (a : Unit) => [(2, (.lit (.pointer (some ⟨g_1, 0, none⟩)))), (4, (.lit (.pointer (some ⟨g_2, 0, none⟩)))), (5, (.lit (.pointer (some ⟨g_6, 0, none⟩)))), (6, (AV.rows 6 (List.map cGTok rest_1))), (17, (iA s.1))]) (fun (s : Int × GMacro) (a : Unit) H' => Holds H0 [.cell g_6 44 (cGMacro m_3), .cell g_2 44 (cGMacro (GMacro.mk ([] : List UInt8) false ([] : List (List UInt8)) false ([] : List GTok))), .cell g_1 44 (cGMacro s.2)] H') o_3 ((0 : Int), l_6) () ho_3 ⟨rfl, rfl, rfl, rfl, rfl, trivial⟩ hH ?_
              rintro ⟨i_3, l_7⟩ _ st_3 env H' h hd_3 hH
              refine WpC.seq ?_
              refine WpC.seqR ?_
              refine WpOps.pn 3 rfl trivial ?_
              refine WpOps.at 169 (len_map _ _) ?_
              refine WpOps.pn 1 rfl trivial ?_
              refine WpOps.nil ?_
              refine WpC.condB rfl (fun hb => ?_) (fun hb => ?_)
              ·
                replace h := Sh.ite_pos hb h
                refine WpC.skipD ?_
                refine ⟨_, Heap.le_refl _, ?_⟩
                refine WpC.seq ?_
                refine WpC.block ?_
                refine WpC.seqR ?_
                obtain ⟨y_10, hy_10, h⟩ := Sh.bind_some h
                refine WpOps.pn 2 rfl trivial ?_
                refine WpOps.consE (v := (.rop (cGTok y_10))) rfl rfl (Exact.ixr cGTok hy_10 rfl rfl rfl rfl (by kernel_rfl) (by decide)) ?_
                refine WpOps.pn 1 rfl trivial ?_
                refine WpOps.consE (v := (iA y_10.kind)) rfl rfl (Exact.load_rop rfl rfl rfl) ?_
                refine WpOps.pn 1 rfl trivial ?_
                obtain ⟨b_11, g_15, h⟩ := Sh.bind_some h
                refine WpOps.cutB 8 186 (bA b_11) rfl ?_ ?_
                ·
                  refine WpOps.pn 1 rfl trivial ?_
                  refine WpOps.split 179 rfl (fun hb => ?_) (fun hb => ?_)
                  ·
                    replace g_15 := Sh.ite_pos hb g_15
                    obtain ⟨y_11, hy_11, g_15⟩ := Sh.bind_some g_15
                    refine WpOps.pn 2 rfl trivial ?_
                    refine WpOps.consE (v := (.rop (cGTok y_11))) rfl rfl (Exact.ixr cGTok hy_11 rfl rfl rfl rfl (by kernel_rfl) (by decide)) ?_
                    refine WpOps.pn 1 rfl trivial ?_
                    refine WpOps.consE (v := (sA y_11.text)) rfl rfl (Exact.load_rop rfl rfl rfl) ?_
                    refine WpOps.pn 2 rfl trivial ?_
                    refine WpOps.nil ?_
                    obtain rfl := Sh.some_inj g_15
                    exact ⟨rfl, rfl⟩
                  ·
                    replace g_15 := Sh.ite_neg hb g_15
                    refine WpOps.pn 7 rfl trivial ?_
                    refine WpOps.nil ?_
                    obtain rfl := Sh.some_inj g_15
                    exact ⟨rfl, rfl⟩
                intro env
                obtain ⟨b_12, g_16, h⟩ := Sh.bind_some h
                refine WpOps.cutB 5 191 (bA b_12) rfl ?_ ?_
                ·
                  refine WpOps.pn 1 rfl trivial ?_
                  refine WpOps.split 187 rfl (fun hb => ?_) (fun hb => ?_)
                  ·
                    replace g_16 := Sh.ite_pos hb g_16
                    refine WpOps.pn 1 rfl trivial ?_
                    refine WpOps.consE (v := (bA m_3.variadic)) rfl rfl (Exact.load rfl rfl (hH.cell (i := 0) rfl) rfl rfl) ?_
                    refine WpOps.pn 2 rfl trivial ?_
                    refine WpOps.nil ?_
                    obtain rfl := Sh.some_inj g_16
                    exact ⟨rfl, rfl⟩
                  ·
                    replace g_16 := Sh.ite_neg hb g_16
                    refine WpOps.pn 4 rfl trivial ?_
                    refine WpOps.nil ?_
                    obtain rfl := Sh.some_inj g_16
                    exact ⟨rfl, rfl⟩
                intro env
                refine WpOps.nil ?_
                refine WpC.condB rfl (fun hb => ?_) (fun hb => ?_)
                ·
                  replace h := Sh.ite_pos hb h
                  refine WpC.seqR ?_
                  refine WpOps.consE (v := (AV.agg (cGMacro (GMacro.mk ([] : List UInt8) false ([] : List (List UInt8)) false ([] : List GTok))))) rfl rfl (Exact.load rfl rfl (hH.cell (i := 1) rfl) rfl rfl) ?_
                  refine WpOps.consG rfl rfl (WpO.putT (cs' := (cGMacro (GMacro.mk ([] : List UInt8) false ([] : List (List UInt8)) false ([] : List GTok)))) (v := (AV.agg (cGMacro (GMacro.mk ([] : List UInt8) false ([] : List (List UInt8)) false ([] : List GTok))))) rfl rfl hH (i := 2) rfl rfl rfl rfl rfl rfl rfl fun H' hH => ?_)
                  refine WpOps.pn 1 rfl trivial ?_
                  refine WpOps.nil ?_
                  refine WpC.lose (i := 0) hH rfl (fun H' hH => ?_)
                  refine WpC.lose (i := 0) hH rfl (fun H' hH => ?_)
                  obtain rfl := Sh.some_inj h
                  have e := hd_3 _ rfl
                  subst e
                  have h := hk_3
                  obtain rfl := Sh.some_inj h
                  refine WpC.ret ?_
                  have hr := hH
                  obtain ⟨_, hle_7, hx_6⟩ := hH.lose_ (i := 0) rfl
                  exact VEnds.retG rfl (.cell rfl (hH.cell (i := 0) rfl) rfl rfl (.tmp rfl .nil)) ⟨_, _, Up.drop hle_7 _, rfl, hx_6⟩
                ·
                  replace h := Sh.ite_neg hb h
                  refine WpC.skipD ?_
                  refine ⟨_, Heap.le_refl _, ?_⟩
                  refine WpC.regionD ?_
                  obtain ⟨c_12, h⟩ := Sh.chk_some h
                  refine WpOps.pn 3 rfl c_12 ?_
                  refine WpOps.nil ?_
                  obtain rfl := Sh.some_inj h
                  exact ⟨_, (Heap.le_refl _), ((i_3 + (1 : Int)), l_7), (), rfl, ⟨rfl, rfl, rfl, rfl, rfl, trivial⟩, hH⟩
              ·
                replace h := Sh.ite_neg hb h
                refine WpC.lose (i := 1) hH rfl (fun H' hH => ?_)
                obtain rfl := Sh.some_inj h
                have e := hd_3 _ rfl
                subst e
                refine WpC.exit ?_
                exact ⟨(l_7, ()), ⟨rfl, rfl, trivial⟩, hk_3, hH⟩
            ·
              rintro ⟨l_8, _⟩ env H' ⟨h, hH⟩
              try dsimp only at h
              refine ⟨_, Heap.le_refl _, ?_⟩
              refine WpC.seqR ?_
              refine WpOps.consE (v := (AV.agg (cGMacro m_3))) rfl rfl (Exact.load rfl rfl (hH.cell (i := 0) rfl) rfl rfl) ?_
              refine WpOps.consG rfl rfl (WpO.putT (cs' := (cGMacro m_3)) (v := (AV.agg (cGMacro m_3))) rfl rfl hH (i := 1) rfl rfl rfl rfl rfl rfl rfl fun H' hH => ?_)
              refine WpOps.pn 1 rfl trivial ?_
              refine WpOps.nil ?_
              refine WpC.lose (i := 0) hH rfl (fun H' hH => ?_)
              obtain rfl := Sh.some_inj h
              refine WpC.ret ?_
              have hr := hH
              obtain ⟨_, hle_8, hx_7⟩ := hH.lose_ (i := 0) rfl
              exact VEnds.retG rfl (.cell rfl (hH.cell (i := 0) rfl) rfl rfl (.tmp rfl .nil)) ⟨_, _, Up.drop hle_8 _, rfl, hx_7⟩

theorem w_emendref03_Same {H0 : Heap} {a_1 : List GTok} {b_1 : List GTok} {r : Bool} (h : emendref03_Same a_1 b_1 = some r) : TCall Tryd.prog 23 [(AV.rows 6 (List.map cGTok a_1)), (AV.rows 6 (List.map cGTok b_1))] H0 (fun v H' => v = (bA r) ∧ H' = H0) noE := by
  refine id (TCall.body Tryd.func23 rfl rfl ?_)
  have hH : Holds H0 [] H0 := rfl
  refine WpC.seqR ?_
  refine WpOps.pn 1 rfl trivial ?_
  refine WpOps.nil ?_
  refine WpC.seq ?_
  refine WpC.seqR ?_
  refine WpOps.pn 2 rfl trivial ?_
  refine WpOps.at 7 (len_map _ _) ?_
  refine WpOps.pn 2 rfl trivial ?_
  refine WpOps.at 9 (len_map _ _) ?_
  refine WpOps.pn 1 rfl trivial ?_
  refine WpOps.nil ?_
  refine WpC.condB rfl (fun hb => ?_) (fun hb => ?_)
  ·
    replace h := Sh.ite_pos hb h
    refine WpC.seqR ?_
    refine WpOps.pn 1 rfl trivial ?_
    refine WpOps.nil ?_
    obtain rfl := Sh.some_inj h
    refine WpC.ret ?_
    exact VEnds.ret1 rfl rfl ⟨rfl, hH⟩
  ·
    replace h := Sh.ite_neg hb h
    refine WpC.skipD ?_
    refine ⟨_, Heap.le_refl _, ?_⟩
    refine WpC.seq ?_
    refine WpC.seqR ?_
    refine WpOps.pn 1 rfl trivial ?_
    refine WpOps.nil ?_
    refine WpC.blockK (fun x : (Unit) × (Unit) => []) (fun x H' => emendref03_Same_j1 x.1 = some r ∧ Holds H0 [] H') ?_ ?_
    ·
      obtain ⟨o_1, ho_1, hk_1⟩ := Sh.bind_some h
      refine WpC.loopS (emendref03_Same_b2 a_1 b_1) (fun (s : Int) (a : Unit) => [(0, (AV.rows 6 (List.map cGTok a_1))), (1, (AV.rows 6 (List.map cGTok b_1))), (5, (iA s))]) (fun (s : Int) (a : Unit) H' => Holds H0 [] H') o_1 (0 : Int) () ho_1 ⟨rfl, rfl, rfl, trivial⟩ hH ?_
      rintro i_1 _ st_1 env H' h hd_1 hH
      refine WpC.seq ?_
      refine WpC.seqR ?_
      refine WpOps.pn 3 rfl trivial ?_
      refine WpOps.at 13 (len_map _ _) ?_
      refine WpOps.pn 1 rfl trivial ?_
      refine WpOps.nil ?_
      refine WpC.condB rfl (fun hb => ?_) (fun hb => ?_)
      ·
        replace h := Sh.ite_pos hb h
        refine WpC.skipD ?_
        refine ⟨_, Heap.le_refl _, ?_⟩
        refine WpC.seq ?_
        refine WpC.block ?_
        refine WpC.seqD [] [0, 1, 2, 3, 4, 5, 6, 7, 8] (by kernel_rfl) (by kernel_rfl) ?_
        obtain ⟨y_1, hy_1, h⟩ := Sh.bind_some h
        refine WpPi.pn 2 rfl trivial ?_
        refine WpPi.consI (v := (.rop (cGTok y_1))) rfl rfl rfl rfl (fun _ => Exact.ixr cGTok hy_1 rfl rfl rfl rfl (by kernel_rfl) (by decide)) ?_
        refine WpPi.consI (v := (AV.agg (cGTok y_1))) rfl rfl rfl rfl (fun _ => Exact.load_rop rfl rfl rfl) ?_
        obtain ⟨y_2, hy_2, h⟩ := Sh.bind_some h
        refine WpPi.pn 2 rfl trivial ?_
        refine WpPi.consI (v := (.rop (cGTok y_2))) rfl rfl rfl rfl (fun _ => Exact.ixr cGTok hy_2 rfl rfl rfl rfl (by kernel_rfl) (by decide)) ?_
        refine WpPi.consI (v := (AV.agg (cGTok y_2))) rfl rfl rfl rfl (fun _ => Exact.load_rop rfl rfl rfl) ?_
        refine WpPi.consI (v := (bA (!decide (y_1 = y_2)))) rfl rfl rfl rfl (fun _ => Exact.neqStruct rfl rfl rfl (eqL_GTok y_1 y_2) (by kernel_rfl) rfl (by kernel_rfl)) ?_
        refine WpPi.nil ?_
        refine WpC.condB rfl (fun hb => ?_) (fun hb => ?_)
        ·
          replace h := Sh.ite_pos hb h
          refine WpC.seqR ?_
          refine WpOps.pn 1 rfl trivial ?_
          refine WpOps.nil ?_
          obtain rfl := Sh.some_inj h
          have e := hd_1 _ rfl
          subst e
          have h := hk_1
          obtain rfl := Sh.some_inj h
          refine WpC.ret ?_
          exact VEnds.ret1 rfl rfl ⟨rfl, hH⟩
        ·
          replace h := Sh.ite_neg hb h
          refine WpC.skipD ?_
          refine ⟨_, Heap.le_refl _, ?_⟩
          refine WpC.regionD ?_
          obtain ⟨c_1, h⟩ := Sh.chk_some h
          refine WpOps.pn 3 rfl c_1 ?_
          refine WpOps.nil ?_
          obtain rfl := Sh.some_inj h
          exact ⟨_, (Heap.le_refl _), (i_1 + (1 : Int)), (), rfl, ⟨rfl, rfl, rfl, trivial⟩, hH⟩
      ·
        replace h := Sh.ite_neg hb h
        obtain rfl := Sh.some_inj h
        have e := hd_1 _ rfl
        subst e
        refine WpC.exit ?_
        exact ⟨((), ()), trivial, hk_1, hH⟩
    ·
      rintro ⟨_, _⟩ env H' ⟨h, hH⟩
      try dsimp only at h
      refine ⟨_, Heap.le_refl _, ?_⟩
      refine WpC.seqR ?_
      refine WpOps.pn 1 rfl trivial ?_
      refine WpOps.nil ?_
      obtain rfl := Sh.some_inj h
      refine WpC.ret ?_
      exact VEnds.ret1 rfl rfl ⟨rfl, hH⟩
end Go.Proofs.YtghnfeflknfclaaDoor
