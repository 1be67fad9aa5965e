/-
  The code computes what the plain functions say. Printed by a tool.
-/
import Derived.Test.YtogbccggnjidpaaT1
import Derived.Test.YtogbccggnjidpaaPe
import Derived.Test.YtogbccggnjidpaaChecked
import Derived.Test.YtogbccggnjidpaaLi
import Derived.Test.YtogbccggnjidpaaCh
set_option linter.unusedVariables false
set_option linter.unusedSimpArgs false
set_option maxRecDepth 20000
namespace Go.Proofs.Ytogbccggnjidpaa
open Go Go.Vc Go.Sh
attribute [local irreducible] WpC WpOps WpPi WpO Exact TCall VEnds Sh.loopS
theorem ek23 : ElemOk Try.prog 23 37 2 16 := ElemOk.of (by kernel_rfl)
theorem w_splice_Join {H0 : Heap} {text_1 : List UInt8} {r : List GChar} (h : splice_Join text_1 = some r) : TCall Try.prog 9 [(sA text_1)] H0 (fun v H' => v = (AV.rows 2 (List.map cGChar r)) ∧ H' = H0) noE := by
  refine TCall.body Try.func9 rfl rfl ?_
  have hH : Holds H0 [] H0 := rfl
  refine WpC.seqR ?_
  refine WpOps.pn 1 rfl trivial ?_
  refine WpOps.nil ?_
  refine WpC.seqR ?_
  refine WpOps.consG rfl rfl (WpO.allocT rfl rfl hH fun g_1 H' hH => ?_)
  have hH := hH.nil 37 2
  refine WpOps.nil ?_
  refine WpC.seq ?_
  refine WpC.seqR ?_
  obtain ⟨it_1, hit_1, h⟩ := Sh.bind_some h
  refine WpOps.pn 1 rfl trivial ?_
  refine WpOps.consG rfl rfl (WpO.callN rfl rfl rfl hH (fun HH => w_chars HH) fun g_2 H' hH => ?_)
  refine WpOps.nil ?_
  refine WpC.block ?_
  obtain ⟨o_1, ho_1, hk_1⟩ := Sh.bind_some h
  refine WpC.rangeS splice_Join_b1 it_1 (fun x : GChar => [AV.agg (cGChar x)]) (fun (s : List GChar) (a : (Option (Nat × Nat))) => [.cell g_2 9 (cS text_1), .own 37 2 a (List.map cGChar s), .cell g_1 23 [.own (List.map cGChar s).length a]]) o_1 ([] : List GChar) none ho_1 rfl rfl (by decide) (by obtain ⟨hl, e⟩ := chars_some hit_1; rw [e]; exact w_chars_c1 hl (Heap.one_at _ _)) (fun _ => rfl) (fun s a H hH => Heap.one_le (hH.cell (i := 0) rfl)) hH ?_ ?_
  ·
    rintro x_1 l_1 p_1 st_1 H' h hd_1 hH
    refine WpC.regionD ?_
    refine WpOps.consG rfl rfl (WpO.allocT (z := cGChar (GChar.mk (0 : UInt8) (0 : Int))) rfl rfl hH fun g_3 H' hH => ?_)
    refine WpOps.consG rfl rfl (WpO.putT (cs' := cGChar x_1) (v := (AV.agg (cGChar x_1))) rfl rfl hH (i := 0) rfl rfl rfl rfl rfl rfl rfl fun H' hH => ?_)
    refine WpOps.nil ?_
    refine ⟨_, Heap.le_refl _, ?_⟩
    refine WpC.block ?_
    refine WpC.regionD ?_
    refine WpOps.consE rfl rfl (Exact.load rfl rfl (hH.cell (i := 3) rfl) rfl rfl) ?_
    refine WpOps.consE (v := (AV.agg (cGChar x_1))) rfl rfl (Exact.load rfl rfl (hH.cell (i := 0) rfl) rfl rfl) ?_
    refine WpOps.consE (v := (AV.rows 2 (List.map cGChar ([x_1] : List GChar)))) rfl rfl (Exact.litSlice rfl rfl) ?_
    obtain ⟨c_1, h⟩ := Sh.chk_some h
    refine WpOps.consG rfl rfl (WpO.pushT cGChar l_1 ([x_1] : List GChar) (i := 2) rfl ek23 hH rfl rfl rfl (.rows _) (fun y _ => one_cGChar y) (by simp) c_1 (by decide) fun p_2 H' hH => ?_)
    refine WpOps.consG rfl rfl (WpO.putT rfl rfl hH (i := 3) rfl rfl rfl rfl rfl rfl rfl fun H' hH => ?_)
    refine WpOps.nil ?_
    obtain ⟨_, hle_1, hH⟩ := hH.lose_ (i := 0) rfl
    obtain rfl := Sh.some_inj h
    exact ⟨_, hle_1, (l_1 ++ ([x_1] : List GChar)), p_2, rfl, hH⟩
  ·
    rintro l_2 p_3 H' rfl hH
    have h := hk_1
    refine WpC.seqR ?_
    refine WpOps.consE rfl rfl (Exact.load rfl rfl (hH.cell (i := 2) rfl) rfl rfl) ?_
    refine WpOps.pn 1 rfl trivial ?_
    refine WpOps.nil ?_
    refine WpC.freeze (t := 2) (i := 1) hH rfl rfl (fun H' hH => ?_)
    refine WpC.lose (i := 0) hH rfl (fun H' hH => ?_)
    refine WpC.lose (i := 0) hH rfl (fun H' hH => ?_)
    obtain rfl := Sh.some_inj h
    refine WpC.ret ?_
    exact VEnds.ret1 rfl rfl ⟨rfl, hH⟩

theorem w_splice_Pairs {H0 : Heap} (hG : Glob H0) {text_1 : List UInt8} {r : Int} (h : splice_Pairs text_1 = some r) : TCall Try.prog 11 [(sA text_1)] H0 (fun v H' => v = (iA r) ∧ H' = H0) noE := by
  refine TCall.body Try.func11 rfl rfl ?_
  have hH : Holds H0 [] H0 := rfl
  refine WpC.seqR ?_
  refine WpOps.pn 1 rfl trivial ?_
  refine WpOps.nil ?_
  refine WpC.seqR ?_
  obtain ⟨c_1, h⟩ := Sh.chk_some h
  refine WpOps.pn 1 rfl trivial ?_
  refine WpOps.consE (v := (iA (Lib.count text_1 ([92, 10] : List UInt8) : Int))) rfl rfl (Exact.call rfl rfl rfl (l_Count text_1 ([92, 10] : List UInt8) (hG.up hH) c_1)) ?_
  refine WpOps.pn 1 rfl trivial ?_
  refine WpOps.nil ?_
  obtain rfl := Sh.some_inj h
  refine WpC.ret ?_
  exact VEnds.ret1 rfl rfl ⟨rfl, hH⟩

theorem w_splice_Text {H0 : Heap} {l_1 : List GChar} {r : List UInt8} (h : splice_Text l_1 = some r) : TCall Try.prog 12 [(AV.rows 2 (List.map cGChar l_1))] H0 (fun v H' => v = (sA r) ∧ H' = H0) noE := by
  refine TCall.body Try.func12 rfl rfl ?_
  have hH : Holds H0 [] H0 := rfl
  refine WpC.seqR ?_
  refine WpOps.pn 1 rfl trivial ?_
  refine WpOps.nil ?_
  refine WpC.seqR ?_
  refine WpOps.pn 2 rfl trivial ?_
  refine WpOps.at 7 (len_map _ _) ?_
  obtain ⟨c_1, h⟩ := Sh.chk_some h
  refine WpOps.consG rfl rfl (WpO.makeT cU (z := (0 : UInt8)) (n := (l_1.length : Int)) c_1 rfl rfl rfl hH rfl rfl rfl rfl (by decide) fun g_1 cp_1 H' hH => ?_)
  refine WpOps.pn 1 rfl trivial ?_
  refine WpOps.nil ?_
  refine WpC.seq ?_
  refine WpC.seqR ?_
  refine WpOps.pn 2 rfl trivial ?_
  refine WpOps.at 10 (len_map _ _) ?_
  refine WpOps.pn 1 rfl trivial ?_
  refine WpOps.nil ?_
  refine WpC.blockK (fun x : (List UInt8) × ((Option (Nat × Nat))) => [(3, (.own (List.map cU x.1).length x.2))]) (fun x H' => splice_Text_j1 x.1 = some r ∧ Holds H0 [.own 5 1 x.2 (List.map cU x.1)] H') ?_ ?_
  ·
    obtain ⟨o_1, ho_1, hk_1⟩ := Sh.bind_some h
    refine WpC.loopS (splice_Text_b2 l_1) (fun (s : Int × List UInt8) (a : (Option (Nat × Nat))) => [(3, (.own (List.map cU s.2).length a)), (9, (AV.rows 2 (List.map cGChar l_1))), (10, (iA (l_1.length : Int))), (11, (iA s.1))]) (fun (s : Int × List UInt8) (a : (Option (Nat × Nat))) H' => Holds H0 [.own 5 1 a (List.map cU s.2)] H') o_1 ((0 : Int), (List.replicate ((l_1.length : Int)).toNat (0 : UInt8))) (some (g_1, cp_1)) ho_1 ⟨rfl, rfl, rfl, rfl, trivial⟩ hH ?_
    rintro ⟨t11_1, b_1⟩ p_1 st_1 env H' h hd_1 hH
    refine WpC.seqR ?_
    refine WpOps.pn 1 rfl trivial ?_
    refine WpOps.nil ?_
    refine WpC.seq ?_
    refine WpC.condB rfl (fun hb => ?_) (fun hb => ?_)
    ·
      replace h := Sh.ite_pos hb h
      refine WpC.skipD ?_
      refine ⟨_, Heap.le_refl _, ?_⟩
      refine WpC.seq ?_
      refine WpC.block ?_
      refine WpC.seqR ?_
      obtain ⟨y_1, hy_1, h⟩ := Sh.bind_some h
      refine WpOps.pn 1 rfl trivial ?_
      refine WpOps.consE (v := (.rop (cGChar y_1))) rfl rfl (Exact.ixr cGChar hy_1 rfl rfl rfl rfl (by kernel_rfl) (by decide)) ?_
      refine WpOps.consE (v := (AV.agg (cGChar y_1))) rfl rfl (Exact.load_rop rfl rfl rfl) ?_
      refine WpOps.consG rfl rfl (WpO.allocT (z := cGChar (GChar.mk (0 : UInt8) (0 : Int))) rfl rfl hH fun g_2 H' hH => ?_)
      refine WpOps.pn 1 rfl trivial ?_
      refine WpOps.consG rfl rfl (WpO.putT (cs' := cGChar y_1) (v := (AV.agg (cGChar y_1))) rfl rfl hH (i := 0) rfl rfl rfl rfl rfl rfl rfl fun H' hH => ?_)
      refine WpOps.nil ?_
      refine WpC.regionD ?_
      refine WpOps.pn 3 rfl trivial ?_
      refine WpOps.consE (v := (u8A y_1.b)) rfl rfl (Exact.load rfl rfl (hH.cell (i := 0) rfl) rfl rfl) ?_
      obtain ⟨y_2, hy_2, h⟩ := Sh.bind_some h
      have hq_1 := h; have hq_2 := hH
      obtain ⟨g_3, cp_2, rfl⟩ := hq_2.grown (i := 1) rfl (ne_of_ix hy_2)
      have h := hq_1; have hH := hq_2
      refine WpOps.consE rfl rfl (Exact.ixo (size := 1) cU hy_2 rfl rfl rfl rfl (by kernel_rfl) (by decide)) ?_
      refine WpOps.consG rfl rfl (WpO.setT (off := 0) (i := 1) cU (y' := y_1.b) (v := (u8A y_1.b)) hy_2 hH rfl rfl rfl rfl rfl rfl rfl rfl rfl fun H' hH => ?_)
      refine WpOps.at 3 (own_set cU b_1 (t11_1).toNat y_1.b _) ?_
      refine WpOps.at 16 (own_set cU b_1 (t11_1).toNat y_1.b _) ?_
      refine WpOps.nil ?_
      refine ⟨_, Heap.le_refl _, ?_⟩
      refine WpC.regionD ?_
      obtain ⟨c_2, h⟩ := Sh.chk_some h
      refine WpOps.pn 2 rfl c_2 ?_
      refine WpOps.nil ?_
      obtain ⟨_, hle_1, hH⟩ := hH.lose_ (i := 0) rfl
      obtain rfl := Sh.some_inj h
      exact ⟨_, hle_1, ((t11_1 + (1 : Int)), (b_1.set (t11_1).toNat y_1.b)), (some (g_3, cp_2)), rfl, ⟨rfl, rfl, rfl, rfl, trivial⟩, hH⟩
    ·
      replace h := Sh.ite_neg hb h
      obtain rfl := Sh.some_inj h
      have e := hd_1 _ rfl
      subst e
      refine WpC.exit ?_
      exact ⟨(b_1, p_1), ⟨rfl, trivial⟩, hk_1, hH⟩
  ·
    rintro ⟨b_2, p_2⟩ env H' ⟨h, hH⟩
    refine ⟨_, Heap.le_refl _, ?_⟩
    refine WpC.seqR ?_
    refine WpOps.pn 1 rfl trivial ?_
    refine WpOps.consE (v := (sA b_2)) rfl rfl (Exact.string_of_bytes (bs := b_2) rfl rfl rfl rfl rfl (hH.src (i := 0) rfl)) ?_
    refine WpOps.pn 1 rfl trivial ?_
    refine WpOps.nil ?_
    refine WpC.lose (i := 0) hH rfl (fun H' hH => ?_)
    obtain rfl := Sh.some_inj h
    refine WpC.ret ?_
    exact VEnds.ret1 rfl rfl ⟨rfl, hH⟩

theorem w_emendref02_Same {H0 : Heap} {a_1 : List GChar} {b_1 : List GChar} {r : Bool} (h : emendref02_Same a_1 b_1 = some r) : TCall Try.prog 13 [(AV.rows 2 (List.map cGChar a_1)), (AV.rows 2 (List.map cGChar b_1))] H0 (fun v H' => v = (bA r) ∧ H' = H0) noE := by
  refine TCall.body Try.func13 rfl rfl ?_
  have hH : Holds H0 [] H0 := rfl
  refine WpC.seqR ?_
  refine WpOps.pn 1 rfl trivial ?_
  refine WpOps.nil ?_
  refine WpC.seq ?_
  refine WpC.seqR ?_
  refine WpOps.pn 2 rfl trivial ?_
  refine WpOps.at 7 (len_map _ _) ?_
  refine WpOps.pn 2 rfl trivial ?_
  refine WpOps.at 9 (len_map _ _) ?_
  refine WpOps.pn 1 rfl trivial ?_
  refine WpOps.nil ?_
  refine WpC.condB rfl (fun hb => ?_) (fun hb => ?_)
  ·
    replace h := Sh.ite_pos hb h
    refine WpC.seqR ?_
    refine WpOps.pn 1 rfl trivial ?_
    refine WpOps.nil ?_
    obtain rfl := Sh.some_inj h
    refine WpC.ret ?_
    exact VEnds.ret1 rfl rfl ⟨rfl, hH⟩
  ·
    replace h := Sh.ite_neg hb h
    refine WpC.skipD ?_
    refine ⟨_, Heap.le_refl _, ?_⟩
    refine WpC.seq ?_
    refine WpC.seqR ?_
    refine WpOps.pn 1 rfl trivial ?_
    refine WpOps.nil ?_
    refine WpC.blockK (fun x : (Unit) × (Unit) => []) (fun x H' => emendref02_Same_j1 x.1 = some r ∧ Holds H0 [] H') ?_ ?_
    ·
      obtain ⟨o_1, ho_1, hk_1⟩ := Sh.bind_some h
      refine WpC.loopS (emendref02_Same_b2 a_1 b_1) (fun (s : Int) (a : Unit) => [(0, (AV.rows 2 (List.map cGChar a_1))), (1, (AV.rows 2 (List.map cGChar b_1))), (5, (iA s))]) (fun (s : Int) (a : Unit) H' => Holds H0 [] H') o_1 (0 : Int) () ho_1 ⟨rfl, rfl, rfl, trivial⟩ hH ?_
      rintro i_1 _ st_1 env H' h hd_1 hH
      refine WpC.seq ?_
      refine WpC.seqR ?_
      refine WpOps.pn 3 rfl trivial ?_
      refine WpOps.at 13 (len_map _ _) ?_
      refine WpOps.pn 1 rfl trivial ?_
      refine WpOps.nil ?_
      refine WpC.condB rfl (fun hb => ?_) (fun hb => ?_)
      ·
        replace h := Sh.ite_pos hb h
        refine WpC.skipD ?_
        refine ⟨_, Heap.le_refl _, ?_⟩
        refine WpC.seq ?_
        refine WpC.block ?_
        refine WpC.seqD [] [0, 1, 2, 3, 4, 5, 6, 7, 8] (by kernel_rfl) (by kernel_rfl) ?_
        obtain ⟨y_1, hy_1, h⟩ := Sh.bind_some h
        refine WpPi.pn 2 rfl trivial ?_
        refine WpPi.consI (v := (.rop (cGChar y_1))) rfl rfl rfl rfl (fun _ => Exact.ixr cGChar hy_1 rfl rfl rfl rfl (by kernel_rfl) (by decide)) ?_
        refine WpPi.consI (v := (AV.agg (cGChar y_1))) rfl rfl rfl rfl (fun _ => Exact.load_rop rfl rfl rfl) ?_
        obtain ⟨y_2, hy_2, h⟩ := Sh.bind_some h
        refine WpPi.pn 2 rfl trivial ?_
        refine WpPi.consI (v := (.rop (cGChar y_2))) rfl rfl rfl rfl (fun _ => Exact.ixr cGChar hy_2 rfl rfl rfl rfl (by kernel_rfl) (by decide)) ?_
        refine WpPi.consI (v := (AV.agg (cGChar y_2))) rfl rfl rfl rfl (fun _ => Exact.load_rop rfl rfl rfl) ?_
        refine WpPi.consI (v := (bA (!decide (y_1 = y_2)))) rfl rfl rfl rfl (fun _ => Exact.neqStruct rfl rfl rfl (eqL_GChar y_1 y_2) (by kernel_rfl) rfl (by kernel_rfl)) ?_
        refine WpPi.nil ?_
        refine WpC.condB rfl (fun hb => ?_) (fun hb => ?_)
        ·
          replace h := Sh.ite_pos hb h
          refine WpC.seqR ?_
          refine WpOps.pn 1 rfl trivial ?_
          refine WpOps.nil ?_
          obtain rfl := Sh.some_inj h
          have e := hd_1 _ rfl
          subst e
          have h := hk_1
          obtain rfl := Sh.some_inj h
          refine WpC.ret ?_
          exact VEnds.ret1 rfl rfl ⟨rfl, hH⟩
        ·
          replace h := Sh.ite_neg hb h
          refine WpC.skipD ?_
          refine ⟨_, Heap.le_refl _, ?_⟩
          refine WpC.regionD ?_
          obtain ⟨c_1, h⟩ := Sh.chk_some h
          refine WpOps.pn 3 rfl c_1 ?_
          refine WpOps.nil ?_
          obtain rfl := Sh.some_inj h
          exact ⟨_, (Heap.le_refl _), (i_1 + (1 : Int)), (), rfl, ⟨rfl, rfl, rfl, trivial⟩, hH⟩
      ·
        replace h := Sh.ite_neg hb h
        obtain rfl := Sh.some_inj h
        have e := hd_1 _ rfl
        subst e
        refine WpC.exit ?_
        exact ⟨((), ()), trivial, hk_1, hH⟩
    ·
      rintro ⟨_, _⟩ env H' ⟨h, hH⟩
      refine ⟨_, Heap.le_refl _, ?_⟩
      refine WpC.seqR ?_
      refine WpOps.pn 1 rfl trivial ?_
      refine WpOps.nil ?_
      obtain rfl := Sh.some_inj h
      refine WpC.ret ?_
      exact VEnds.ret1 rfl rfl ⟨rfl, hH⟩

theorem w_splice_Span {H0 : Heap} {text_1 : List UInt8} {from_1 : Int} {to_1 : Int} {r : Int × Int × Int} (h : splice_Span text_1 from_1 to_1 = some r) : TCall Try.prog 15 [(sA text_1), (iA from_1), (iA to_1)] H0 (fun v H' => v = (.tup [(iA r.1), (iA r.2.1), (iA r.2.2)]) ∧ H' = H0) noE := by
  refine TCall.body Try.func15 rfl rfl ?_
  have hH : Holds H0 [] H0 := rfl
  refine WpC.seqR ?_
  refine WpOps.pn 3 rfl trivial ?_
  refine WpOps.nil ?_
  refine WpC.seqR ?_
  obtain ⟨r_1, hr_1, h⟩ := Sh.bind_some h
  refine WpOps.pn 1 rfl trivial ?_
  refine WpOps.consE (v := (AV.rows 2 (List.map cGChar r_1))) rfl rfl (Exact.call rfl rfl rfl (w_splice_Join hr_1)) ?_
  refine WpOps.pn 1 rfl trivial ?_
  refine WpOps.nil ?_
  refine WpC.seq ?_
  refine WpC.block ?_
  refine WpC.seqR ?_
  refine WpOps.pn 2 rfl trivial ?_
  obtain ⟨b_1, g_1, h⟩ := Sh.bind_some h
  refine WpOps.cutB 5 19 (bA b_1) rfl ?_ ?_
  ·
    refine WpOps.pn 1 rfl trivial ?_
    refine WpOps.split 15 rfl (fun hb => ?_) (fun hb => ?_)
    ·
      replace g_1 := Sh.ite_pos hb g_1
      refine WpOps.pn 4 rfl trivial ?_
      refine WpOps.nil ?_
      obtain rfl := Sh.some_inj g_1
      exact ⟨rfl, rfl⟩
    ·
      replace g_1 := Sh.ite_neg hb g_1
      refine WpOps.pn 4 rfl trivial ?_
      refine WpOps.nil ?_
      obtain rfl := Sh.some_inj g_1
      exact ⟨rfl, rfl⟩
  intro env
  obtain ⟨b_2, g_2, h⟩ := Sh.bind_some h
  refine WpOps.cutB 6 25 (bA b_2) rfl ?_ ?_
  ·
    refine WpOps.pn 1 rfl trivial ?_
    refine WpOps.split 20 rfl (fun hb => ?_) (fun hb => ?_)
    ·
      replace g_2 := Sh.ite_pos hb g_2
      refine WpOps.pn 5 rfl trivial ?_
      refine WpOps.nil ?_
      obtain rfl := Sh.some_inj g_2
      exact ⟨rfl, rfl⟩
    ·
      replace g_2 := Sh.ite_neg hb g_2
      refine WpOps.pn 3 rfl trivial ?_
      refine WpOps.at 23 (len_map _ _) ?_
      refine WpOps.pn 2 rfl trivial ?_
      refine WpOps.nil ?_
      obtain rfl := Sh.some_inj g_2
      exact ⟨rfl, rfl⟩
  intro env
  refine WpOps.pn 1 rfl trivial ?_
  refine WpOps.nil ?_
  refine WpC.condB rfl (fun hb => ?_) (fun hb => ?_)
  ·
    replace h := Sh.ite_pos hb h
    refine WpC.seqR ?_
    refine WpOps.pn 3 rfl trivial ?_
    refine WpOps.nil ?_
    obtain rfl := Sh.some_inj h
    refine WpC.ret ?_
    exact VEnds.ret3 rfl rfl rfl rfl ⟨rfl, hH⟩
  ·
    replace h := Sh.ite_neg hb h
    refine WpC.seqR ?_
    refine WpOps.pn 3 rfl trivial ?_
    refine WpOps.at 29 (len_map _ _) ?_
    refine WpOps.pn 2 rfl trivial ?_
    refine WpOps.nil ?_
    refine WpC.condB rfl (fun hb => ?_) (fun hb => ?_)
    ·
      replace h := Sh.ite_pos hb h
      refine WpC.seqR ?_
      refine WpOps.pn 7 rfl trivial ?_
      refine WpOps.nil ?_
      obtain rfl := Sh.some_inj h
      refine WpC.ret ?_
      exact VEnds.ret3 rfl rfl rfl rfl ⟨rfl, hH⟩
    ·
      replace h := Sh.ite_neg hb h
      refine WpC.seqR ?_
      refine WpOps.pn 4 rfl trivial ?_
      refine WpOps.nil ?_
      refine WpC.condB rfl (fun hb => ?_) (fun hb => ?_)
      ·
        replace h := Sh.ite_pos hb h
        refine WpC.seqD [] [0, 1, 2, 3, 4, 5, 6, 7, 8, 9, 10, 11, 12] (by kernel_rfl) (by kernel_rfl) ?_
        obtain ⟨y_1, hy_1, h⟩ := Sh.bind_some h
        refine WpPi.pn 2 rfl trivial ?_
        refine WpPi.consI (v := (.rop (cGChar y_1))) rfl rfl rfl rfl (fun _ => Exact.ixr cGChar hy_1 rfl rfl rfl rfl (by kernel_rfl) (by decide)) ?_
        refine WpPi.pn 1 rfl trivial ?_
        refine WpPi.consI (v := (iA y_1.at_)) rfl rfl rfl rfl (fun _ => Exact.load_rop rfl rfl rfl) ?_
        obtain ⟨y_2, hy_2, h⟩ := Sh.bind_some h
        refine WpPi.pn 2 rfl trivial ?_
        refine WpPi.consI (v := (.rop (cGChar y_2))) rfl rfl rfl rfl (fun _ => Exact.ixr cGChar hy_2 rfl rfl rfl rfl (by kernel_rfl) (by decide)) ?_
        refine WpPi.pn 1 rfl trivial ?_
        refine WpPi.consI (v := (iA y_2.at_)) rfl rfl rfl rfl (fun _ => Exact.load_rop rfl rfl rfl) ?_
        refine WpPi.pn 3 rfl trivial ?_
        refine WpPi.nil ?_
        obtain rfl := Sh.some_inj h
        refine WpC.ret ?_
        exact VEnds.ret3 rfl rfl rfl rfl ⟨rfl, hH⟩
      ·
        replace h := Sh.ite_neg hb h
        refine WpC.skipD ?_
        refine ⟨_, Heap.le_refl _, ?_⟩
        refine WpC.seqD [] [0, 1, 2, 3, 4, 5, 6, 7, 8, 9, 10, 11, 12, 13, 14] (by kernel_rfl) (by kernel_rfl) ?_
        obtain ⟨y_3, hy_3, h⟩ := Sh.bind_some h
        refine WpPi.pn 2 rfl trivial ?_
        refine WpPi.consI (v := (.rop (cGChar y_3))) rfl rfl rfl rfl (fun _ => Exact.ixr cGChar hy_3 rfl rfl rfl rfl (by kernel_rfl) (by decide)) ?_
        refine WpPi.pn 1 rfl trivial ?_
        refine WpPi.consI (v := (iA y_3.at_)) rfl rfl rfl rfl (fun _ => Exact.load_rop rfl rfl rfl) ?_
        obtain ⟨c_1, h⟩ := Sh.chk_some h
        obtain ⟨y_4, hy_4, h⟩ := Sh.bind_some h
        refine WpPi.pn 3 rfl c_1 ?_
        refine WpPi.consI (v := (.rop (cGChar y_4))) rfl rfl rfl rfl (fun _ => Exact.ixr cGChar hy_4 rfl rfl rfl rfl (by kernel_rfl) (by decide)) ?_
        refine WpPi.pn 1 rfl trivial ?_
        refine WpPi.consI (v := (iA y_4.at_)) rfl rfl rfl rfl (fun _ => Exact.load_rop rfl rfl rfl) ?_
        obtain ⟨c_2, h⟩ := Sh.chk_some h
        refine WpPi.pn 4 rfl c_2 ?_
        refine WpPi.nil ?_
        obtain rfl := Sh.some_inj h
        refine WpC.ret ?_
        exact VEnds.ret3 rfl rfl rfl rfl ⟨rfl, hH⟩

theorem w_splice_Spread {H0 : Heap} {s_1 : List UInt8} {places_1 : List Int} {r : List UInt8} (h : splice_Spread s_1 places_1 = some r) : TCall Try.prog 17 [(sA s_1), (AV.rows 1 (List.map cI places_1))] H0 (fun v H' => v = (sA r) ∧ H' = H0) noE := by
  refine TCall.body Try.func17 rfl rfl ?_
  have hH : Holds H0 [] H0 := rfl
  refine WpC.seqR ?_
  refine WpOps.pn 1 rfl trivial ?_
  refine WpOps.nil ?_
  refine WpC.seqR ?_
  obtain ⟨c_1, h⟩ := Sh.chk_some h
  obtain ⟨c_2, h⟩ := Sh.chk_some h
  refine WpOps.pn 3 rfl c_1 ?_
  refine WpOps.consG rfl rfl (WpO.makeT cI (z := (0 : Int)) (n := ((s_1.length : Int) + (1 : Int))) c_2 rfl rfl rfl hH rfl rfl rfl rfl (by decide) fun g_1 cp_1 H' hH => ?_)
  refine WpOps.pn 1 rfl trivial ?_
  refine WpOps.nil ?_
  refine WpC.seq ?_
  refine WpC.seqR ?_
  refine WpOps.pn 2 rfl trivial ?_
  refine WpOps.at 15 (len_map _ _) ?_
  refine WpOps.pn 1 rfl trivial ?_
  refine WpOps.nil ?_
  refine WpC.blockK (fun x : (List Int) × ((Option (Nat × Nat))) => [(0, (sA s_1)), (5, (.own (List.map cI x.1).length x.2))]) (fun x H' => (splice_Spread_j1 s_1) x.1 = some r ∧ Holds H0 [.own 3 1 x.2 (List.map cI x.1)] H') ?_ ?_
  ·
    obtain ⟨o_1, ho_1, hk_1⟩ := Sh.bind_some h
    refine WpC.loopS (splice_Spread_b2 s_1 places_1) (fun (s : Int × List Int) (a : (Option (Nat × Nat))) => [(0, (sA s_1)), (5, (.own (List.map cI s.2).length a)), (14, (AV.rows 1 (List.map cI places_1))), (15, (iA (places_1.length : Int))), (16, (iA s.1))]) (fun (s : Int × List Int) (a : (Option (Nat × Nat))) H' => Holds H0 [.own 3 1 a (List.map cI s.2)] H') o_1 ((0 : Int), (List.replicate (((s_1.length : Int) + (1 : Int))).toNat (0 : Int))) (some (g_1, cp_1)) ho_1 ⟨rfl, rfl, rfl, rfl, rfl, trivial⟩ hH ?_
    rintro ⟨t16_1, many_1⟩ p_1 st_1 env H' h hd_1 hH
    refine WpC.seqR ?_
    refine WpOps.pn 1 rfl trivial ?_
    refine WpOps.nil ?_
    refine WpC.seq ?_
    refine WpC.condB rfl (fun hb => ?_) (fun hb => ?_)
    ·
      replace h := Sh.ite_pos hb h
      refine WpC.skipD ?_
      refine ⟨_, Heap.le_refl _, ?_⟩
      refine WpC.seq ?_
      refine WpC.block ?_
      refine WpC.seqR ?_
      obtain ⟨y_1, hy_1, h⟩ := Sh.bind_some h
      refine WpOps.consE (v := (.rop (cI y_1))) rfl rfl (Exact.ixr cI hy_1 rfl rfl rfl rfl (by kernel_rfl) (by decide)) ?_
      refine WpOps.consE (v := (iA y_1)) rfl rfl (Exact.load_rop rfl rfl rfl) ?_
      refine WpOps.pn 1 rfl trivial ?_
      refine WpOps.nil ?_
      refine WpC.seqR ?_
      refine WpOps.pn 2 rfl trivial ?_
      obtain ⟨b_1, g_2, h⟩ := Sh.bind_some h
      refine WpOps.cutB 6 27 (bA b_1) rfl ?_ ?_
      ·
        refine WpOps.pn 1 rfl trivial ?_
        refine WpOps.split 22 rfl (fun hb => ?_) (fun hb => ?_)
        ·
          replace g_2 := Sh.ite_pos hb g_2
          refine WpOps.pn 5 rfl trivial ?_
          refine WpOps.nil ?_
          obtain rfl := Sh.some_inj g_2
          exact ⟨rfl, rfl⟩
        ·
          replace g_2 := Sh.ite_neg hb g_2
          refine WpOps.pn 5 rfl trivial ?_
          refine WpOps.nil ?_
          obtain rfl := Sh.some_inj g_2
          exact ⟨rfl, rfl⟩
      intro env
      refine WpOps.nil ?_
      refine WpC.condB rfl (fun hb => ?_) (fun hb => ?_)
      ·
        replace h := Sh.ite_pos hb h
        refine WpC.regionD ?_
        obtain ⟨y_2, hy_2, h⟩ := Sh.bind_some h
        refine WpOps.pn 2 rfl trivial ?_
        have hq_1 := h; have hq_2 := hH
        obtain ⟨g_3, cp_2, rfl⟩ := hq_2.grown (i := 0) rfl (ne_of_ix hy_2)
        have h := hq_1; have hH := hq_2
        refine WpOps.consE rfl rfl (Exact.ixo (size := 1) cI hy_2 rfl rfl rfl rfl (by kernel_rfl) (by decide)) ?_
        refine WpOps.consE (v := (iA y_2)) rfl rfl (Exact.ldo (off := 0) (i := 0) cI hy_2 hH rfl rfl rfl (by decide) rfl) ?_
        obtain ⟨c_3, h⟩ := Sh.chk_some h
        obtain ⟨y_3, hy_3, h⟩ := Sh.bind_some h
        refine WpOps.pn 1 rfl c_3 ?_
        refine WpOps.consE rfl rfl (Exact.ixo (size := 1) cI hy_3 rfl rfl rfl rfl (by kernel_rfl) (by decide)) ?_
        refine WpOps.consG rfl rfl (WpO.setT (off := 0) (i := 0) cI (y' := (y_2 + (1 : Int))) (v := (iA (y_2 + (1 : Int)))) hy_3 hH rfl rfl rfl rfl rfl rfl rfl rfl rfl fun H' hH => ?_)
        refine WpOps.at 5 (own_set cI many_1 (y_1).toNat (y_2 + (1 : Int)) _) ?_
        refine WpOps.at 28 (own_set cI many_1 (y_1).toNat (y_2 + (1 : Int)) _) ?_
        refine WpOps.nil ?_
        refine ⟨_, Heap.le_refl _, ?_⟩
        refine WpC.regionD ?_
        obtain ⟨c_4, h⟩ := Sh.chk_some h
        refine WpOps.pn 2 rfl c_4 ?_
        refine WpOps.nil ?_
        obtain rfl := Sh.some_inj h
        exact ⟨_, (Heap.le_refl _), ((t16_1 + (1 : Int)), (many_1.set (y_1).toNat (y_2 + (1 : Int)))), (some (g_3, cp_2)), rfl, ⟨rfl, rfl, rfl, rfl, rfl, trivial⟩, hH⟩
      ·
        replace h := Sh.ite_neg hb h
        refine WpC.skipD ?_
        refine ⟨_, Heap.le_refl _, ?_⟩
        refine WpC.regionD ?_
        obtain ⟨c_5, h⟩ := Sh.chk_some h
        refine WpOps.pn 2 rfl c_5 ?_
        refine WpOps.nil ?_
        obtain rfl := Sh.some_inj h
        exact ⟨_, (Heap.le_refl _), ((t16_1 + (1 : Int)), many_1), p_1, rfl, ⟨rfl, rfl, rfl, rfl, rfl, trivial⟩, hH⟩
    ·
      replace h := Sh.ite_neg hb h
      obtain rfl := Sh.some_inj h
      have e := hd_1 _ rfl
      subst e
      refine WpC.exit ?_
      exact ⟨(many_1, p_1), ⟨rfl, rfl, trivial⟩, hk_1, hH⟩
  ·
    rintro ⟨many_2, p_2⟩ env H' ⟨h, hH⟩
    refine ⟨_, Heap.le_refl _, ?_⟩
    refine WpC.seqR ?_
    refine WpOps.consG rfl rfl (WpO.allocT rfl rfl hH fun g_4 H' hH => ?_)
    have hH := Holds.bld_new 5 hH
    refine WpOps.nil ?_
    refine WpC.seq ?_
    refine WpC.seqR ?_
    refine WpOps.pn 2 rfl trivial ?_
    refine WpOps.at 36 (len_map _ _) ?_
    refine WpOps.pn 1 rfl trivial ?_
    refine WpOps.nil ?_
    refine WpC.blockK (fun x : (List UInt8) × (Unit) => [(8, (.lit (.pointer (some ⟨g_4, 0, none⟩))))]) (fun x H' => splice_Spread_j3 x.1 = some r ∧ Holds H0 [.bld g_4 44 5 x.1] H') ?_ ?_
    ·
      obtain ⟨o_2, ho_2, hk_2⟩ := Sh.bind_some h
      refine WpC.loopS (splice_Spread_b4 s_1 many_2) (fun (s : Int × List UInt8) (a : Unit) => [(0, (sA s_1)), (5, (.own (List.map cI many_2).length p_2)), (8, (.lit (.pointer (some ⟨g_4, 0, none⟩)))), (36, (iA (many_2.length : Int))), (37, (iA s.1))]) (fun (s : Int × List UInt8) (a : Unit) H' => Holds H0 [.bld g_4 44 5 s.2, .own 3 1 p_2 (List.map cI many_2)] H') o_2 ((0 : Int), ([] : List UInt8)) () ho_2 ⟨rfl, rfl, rfl, rfl, rfl, trivial⟩ hH ?_
      rintro ⟨t37_1, out_1⟩ _ st_2 env H' h hd_2 hH
      refine WpC.seqR ?_
      refine WpOps.pn 1 rfl trivial ?_
      refine WpOps.nil ?_
      refine WpC.seq ?_
      refine WpC.condB rfl (fun hb => ?_) (fun hb => ?_)
      ·
        replace h := Sh.ite_pos hb h
        refine WpC.skipD ?_
        refine ⟨_, Heap.le_refl _, ?_⟩
        refine WpC.seq ?_
        refine WpC.block ?_
        refine WpC.seqR ?_
        refine WpOps.pn 2 rfl trivial ?_
        refine WpOps.nil ?_
        refine WpC.seqR ?_
        obtain ⟨y_4, hy_4, h⟩ := Sh.bind_some h
        refine WpOps.pn 2 rfl trivial ?_
        have hq_3 := h; have hq_4 := hH
        obtain ⟨g_5, cp_3, rfl⟩ := hq_4.grown (i := 1) rfl (ne_of_ix hy_4)
        have h := hq_3; have hH := hq_4
        refine WpOps.consE rfl rfl (Exact.ixo (size := 1) cI hy_4 rfl rfl rfl rfl (by kernel_rfl) (by decide)) ?_
        refine WpOps.consE (v := (iA y_4)) rfl rfl (Exact.ldo (off := 0) (i := 1) cI hy_4 hH rfl rfl rfl (by decide) rfl) ?_
        obtain ⟨c_6, h⟩ := Sh.chk_some h
        refine WpOps.consE (v := (sA (Lib.repeatL ([92, 10] : List UInt8) (y_4).toNat))) rfl rfl (Exact.call rfl rfl rfl (l_Repeat ([92, 10] : List UInt8) y_4 c_6)) ?_
        obtain ⟨c_7, h⟩ := Sh.chk_some h
        refine WpOps.consG rfl rfl (WpO.callT (v := .tup [iA (Lib.repeatL ([92, 10] : List UInt8) (y_4).toNat).length, .lit .nilIface]) rfl rfl rfl hH (i := 0) rfl (fun H1 hl hh => w_WriteString c_7 hh) fun H' hH => ?_)
        refine WpOps.nil ?_
        refine WpC.seqR ?_
        refine WpOps.pn 4 rfl trivial ?_
        refine WpOps.nil ?_
        refine WpC.condB rfl (fun hb => ?_) (fun hb => ?_)
        ·
          replace h := Sh.ite_pos hb h
          refine WpC.regionD ?_
          obtain ⟨ch_1, hch_1, h⟩ := Sh.bind_some h
          refine WpOps.pn 2 rfl trivial ?_
          refine WpOps.consE (v := (u8A ch_1)) rfl rfl (Exact.ixs hch_1 rfl rfl rfl rfl) ?_
          obtain ⟨c_8, h⟩ := Sh.chk_some h
          refine WpOps.consG rfl rfl (WpO.callT (v := .lit .nilIface) rfl rfl rfl hH (i := 0) rfl (fun H1 hl hh => w_WriteByte c_8 hh) fun H' hH => ?_)
          refine WpOps.nil ?_
          refine ⟨_, Heap.le_refl _, ?_⟩
          refine WpC.regionD ?_
          obtain ⟨c_9, h⟩ := Sh.chk_some h
          refine WpOps.pn 2 rfl c_9 ?_
          refine WpOps.nil ?_
          obtain rfl := Sh.some_inj h
          exact ⟨_, (Heap.le_refl _), ((t37_1 + (1 : Int)), ((out_1 ++ (Lib.repeatL ([92, 10] : List UInt8) (y_4).toNat)) ++ [ch_1])), (), rfl, ⟨rfl, rfl, rfl, rfl, rfl, trivial⟩, hH⟩
        ·
          replace h := Sh.ite_neg hb h
          refine WpC.skipD ?_
          refine ⟨_, Heap.le_refl _, ?_⟩
          refine WpC.regionD ?_
          obtain ⟨c_10, h⟩ := Sh.chk_some h
          refine WpOps.pn 2 rfl c_10 ?_
          refine WpOps.nil ?_
          obtain rfl := Sh.some_inj h
          exact ⟨_, (Heap.le_refl _), ((t37_1 + (1 : Int)), (out_1 ++ (Lib.repeatL ([92, 10] : List UInt8) (y_4).toNat))), (), rfl, ⟨rfl, rfl, rfl, rfl, rfl, trivial⟩, hH⟩
      ·
        replace h := Sh.ite_neg hb h
        refine WpC.lose (i := 1) hH rfl (fun H' hH => ?_)
        obtain rfl := Sh.some_inj h
        have e := hd_2 _ rfl
        subst e
        refine WpC.exit ?_
        exact ⟨(out_1, ()), ⟨rfl, trivial⟩, hk_2, hH⟩
    ·
      rintro ⟨out_2, _⟩ env H' ⟨h, hH⟩
      refine ⟨_, Heap.le_refl _, ?_⟩
      refine WpC.seqR ?_
      refine WpOps.consG rfl rfl (WpO.callT0 (v := sA out_2) rfl rfl rfl hH (i := 0) rfl (fun H1 hh => w_String hh) fun H' hH => ?_)
      refine WpOps.pn 1 rfl trivial ?_
      refine WpOps.nil ?_
      obtain rfl := Sh.some_inj h
      refine WpC.ret ?_
      exact VEnds.ret1 rfl rfl ⟨rfl, hH⟩

theorem w_emendlaw02_awake {H0 : Heap} (hG : Glob H0)  {r : Bool} (h : emendlaw02_awake  = some r) : TCall Try.prog 8 [] H0 (fun v H' => v = (bA r) ∧ H' = H0) noE := by
  refine TCall.body Try.func8 rfl rfl ?_
  have hH : Holds H0 [] H0 := rfl
  refine WpC.seqR ?_
  refine WpOps.pn 1 rfl trivial ?_
  refine WpOps.nil ?_
  refine WpC.seqR ?_
  obtain ⟨r_1, hr_1, h⟩ := Sh.bind_some h
  refine WpOps.consE (v := (AV.rows 2 (List.map cGChar r_1))) rfl rfl (Exact.call rfl rfl rfl (w_splice_Join hr_1)) ?_
  refine WpOps.pn 1 rfl trivial ?_
  refine WpOps.nil ?_
  refine WpC.seqR ?_
  obtain ⟨r_2, hr_2, h⟩ := Sh.bind_some h
  refine WpOps.consE (v := (AV.rows 2 (List.map cGChar r_2))) rfl rfl (Exact.call rfl rfl rfl (w_splice_Join hr_2)) ?_
  obtain ⟨r_3, hr_3, h⟩ := Sh.bind_some h
  refine WpOps.consE (v := (sA r_3)) rfl rfl (Exact.call rfl rfl rfl (w_splice_Text hr_3)) ?_
  refine WpOps.pn 1 rfl trivial ?_
  refine WpOps.nil ?_
  refine WpC.seqR ?_
  obtain ⟨r_4, hr_4, h⟩ := Sh.bind_some h
  refine WpOps.consE (v := (.tup [(iA r_4.1), (iA r_4.2.1), (iA r_4.2.2)])) rfl rfl (Exact.call rfl rfl rfl (w_splice_Span hr_4)) ?_
  refine WpOps.pn 7 rfl trivial ?_
  refine WpOps.nil ?_
  refine WpC.seqR ?_
  obtain ⟨r_5, hr_5, h⟩ := Sh.bind_some h
  refine WpOps.consE (v := (.tup [(iA r_5.1), (iA r_5.2.1), (iA r_5.2.2)])) rfl rfl (Exact.call rfl rfl rfl (w_splice_Span hr_5)) ?_
  refine WpOps.pn 7 rfl trivial ?_
  refine WpOps.nil ?_
  refine WpC.seqR ?_
  obtain ⟨r_6, hr_6, h⟩ := Sh.bind_some h
  refine WpOps.consE (v := (.tup [(iA r_6.1), (iA r_6.2.1), (iA r_6.2.2)])) rfl rfl (Exact.call rfl rfl rfl (w_splice_Span hr_6)) ?_
  refine WpOps.pn 7 rfl trivial ?_
  refine WpOps.nil ?_
  refine WpC.seqR ?_
  obtain ⟨r_7, hr_7, h⟩ := Sh.bind_some h
  refine WpOps.consE (v := (.tup [(iA r_7.1), (iA r_7.2.1), (iA r_7.2.2)])) rfl rfl (Exact.call rfl rfl rfl (w_splice_Span hr_7)) ?_
  refine WpOps.pn 7 rfl trivial ?_
  refine WpOps.nil ?_
  refine WpC.seqR ?_
  refine WpOps.consE (v := (AV.rows 1 (List.map cI ([(1 : Int)] : List Int)))) rfl rfl (Exact.litSlice rfl rfl) ?_
  obtain ⟨r_8, hr_8, h⟩ := Sh.bind_some h
  refine WpOps.consE (v := (sA r_8)) rfl rfl (Exact.call rfl rfl rfl (w_splice_Spread hr_8)) ?_
  refine WpOps.pn 1 rfl trivial ?_
  refine WpOps.nil ?_
  refine WpC.seqR ?_
  obtain ⟨r_9, hr_9, h⟩ := Sh.bind_some h
  refine WpOps.consE (v := (iA r_9)) rfl rfl (Exact.call rfl rfl rfl (w_splice_Pairs (hG.up hH) hr_9)) ?_
  refine WpOps.pn 1 rfl trivial ?_
  refine WpOps.nil ?_
  refine WpC.seqR ?_
  refine WpOps.pn 3 rfl trivial ?_
  refine WpOps.consE (v := (AV.rows 2 (List.map cGChar ([(GChar.mk (97 : UInt8) (0 : Int)), (GChar.mk (98 : UInt8) (3 : Int))] : List GChar)))) rfl rfl (Exact.litSlice rfl rfl) ?_
  obtain ⟨r_10, hr_10, h⟩ := Sh.bind_some h
  refine WpOps.consE (v := (bA r_10)) rfl rfl (Exact.call rfl rfl rfl (w_emendref02_Same hr_10)) ?_
  obtain ⟨b_1, g_1, h⟩ := Sh.bind_some h
  refine WpOps.cutB 4 51 (bA b_1) rfl ?_ ?_
  ·
    refine WpOps.pn 1 rfl trivial ?_
    refine WpOps.split 48 rfl (fun hb => ?_) (fun hb => ?_)
    ·
      replace g_1 := Sh.ite_pos hb g_1
      refine WpOps.pn 3 rfl trivial ?_
      refine WpOps.nil ?_
      obtain rfl := Sh.some_inj g_1
      exact ⟨rfl, rfl⟩
    ·
      replace g_1 := Sh.ite_neg hb g_1
      refine WpOps.pn 3 rfl trivial ?_
      refine WpOps.nil ?_
      obtain rfl := Sh.some_inj g_1
      exact ⟨rfl, rfl⟩
  intro env
  obtain ⟨b_2, g_2, h⟩ := Sh.bind_some h
  refine WpOps.cutB 4 55 (bA b_2) rfl ?_ ?_
  ·
    refine WpOps.pn 1 rfl trivial ?_
    refine WpOps.split 52 rfl (fun hb => ?_) (fun hb => ?_)
    ·
      replace g_2 := Sh.ite_pos hb g_2
      refine WpOps.pn 3 rfl trivial ?_
      refine WpOps.nil ?_
      obtain rfl := Sh.some_inj g_2
      exact ⟨rfl, rfl⟩
    ·
      replace g_2 := Sh.ite_neg hb g_2
      refine WpOps.pn 3 rfl trivial ?_
      refine WpOps.nil ?_
      obtain rfl := Sh.some_inj g_2
      exact ⟨rfl, rfl⟩
  intro env
  obtain ⟨b_3, g_3, h⟩ := Sh.bind_some h
  refine WpOps.cutB 4 59 (bA b_3) rfl ?_ ?_
  ·
    refine WpOps.pn 1 rfl trivial ?_
    refine WpOps.split 56 rfl (fun hb => ?_) (fun hb => ?_)
    ·
      replace g_3 := Sh.ite_pos hb g_3
      refine WpOps.pn 3 rfl trivial ?_
      refine WpOps.nil ?_
      obtain rfl := Sh.some_inj g_3
      exact ⟨rfl, rfl⟩
    ·
      replace g_3 := Sh.ite_neg hb g_3
      refine WpOps.pn 3 rfl trivial ?_
      refine WpOps.nil ?_
      obtain rfl := Sh.some_inj g_3
      exact ⟨rfl, rfl⟩
  intro env
  obtain ⟨b_4, g_4, h⟩ := Sh.bind_some h
  refine WpOps.cutB 4 63 (bA b_4) rfl ?_ ?_
  ·
    refine WpOps.pn 1 rfl trivial ?_
    refine WpOps.split 60 rfl (fun hb => ?_) (fun hb => ?_)
    ·
      replace g_4 := Sh.ite_pos hb g_4
      refine WpOps.pn 3 rfl trivial ?_
      refine WpOps.nil ?_
      obtain rfl := Sh.some_inj g_4
      exact ⟨rfl, rfl⟩
    ·
      replace g_4 := Sh.ite_neg hb g_4
      refine WpOps.pn 3 rfl trivial ?_
      refine WpOps.nil ?_
      obtain rfl := Sh.some_inj g_4
      exact ⟨rfl, rfl⟩
  intro env
  obtain ⟨b_5, g_5, h⟩ := Sh.bind_some h
  refine WpOps.cutB 4 67 (bA b_5) rfl ?_ ?_
  ·
    refine WpOps.pn 1 rfl trivial ?_
    refine WpOps.split 64 rfl (fun hb => ?_) (fun hb => ?_)
    ·
      replace g_5 := Sh.ite_pos hb g_5
      refine WpOps.pn 3 rfl trivial ?_
      refine WpOps.nil ?_
      obtain rfl := Sh.some_inj g_5
      exact ⟨rfl, rfl⟩
    ·
      replace g_5 := Sh.ite_neg hb g_5
      refine WpOps.pn 3 rfl trivial ?_
      refine WpOps.nil ?_
      obtain rfl := Sh.some_inj g_5
      exact ⟨rfl, rfl⟩
  intro env
  obtain ⟨b_6, g_6, h⟩ := Sh.bind_some h
  refine WpOps.cutB 4 71 (bA b_6) rfl ?_ ?_
  ·
    refine WpOps.pn 1 rfl trivial ?_
    refine WpOps.split 68 rfl (fun hb => ?_) (fun hb => ?_)
    ·
      replace g_6 := Sh.ite_pos hb g_6
      refine WpOps.pn 3 rfl trivial ?_
      refine WpOps.nil ?_
      obtain rfl := Sh.some_inj g_6
      exact ⟨rfl, rfl⟩
    ·
      replace g_6 := Sh.ite_neg hb g_6
      refine WpOps.pn 3 rfl trivial ?_
      refine WpOps.nil ?_
      obtain rfl := Sh.some_inj g_6
      exact ⟨rfl, rfl⟩
  intro env
  obtain ⟨b_7, g_7, h⟩ := Sh.bind_some h
  refine WpOps.cutB 4 75 (bA b_7) rfl ?_ ?_
  ·
    refine WpOps.pn 1 rfl trivial ?_
    refine WpOps.split 72 rfl (fun hb => ?_) (fun hb => ?_)
    ·
      replace g_7 := Sh.ite_pos hb g_7
      refine WpOps.pn 3 rfl trivial ?_
      refine WpOps.nil ?_
      obtain rfl := Sh.some_inj g_7
      exact ⟨rfl, rfl⟩
    ·
      replace g_7 := Sh.ite_neg hb g_7
      refine WpOps.pn 3 rfl trivial ?_
      refine WpOps.nil ?_
      obtain rfl := Sh.some_inj g_7
      exact ⟨rfl, rfl⟩
  intro env
  obtain ⟨b_8, g_8, h⟩ := Sh.bind_some h
  refine WpOps.cutB 4 79 (bA b_8) rfl ?_ ?_
  ·
    refine WpOps.pn 1 rfl trivial ?_
    refine WpOps.split 76 rfl (fun hb => ?_) (fun hb => ?_)
    ·
      replace g_8 := Sh.ite_pos hb g_8
      refine WpOps.pn 3 rfl trivial ?_
      refine WpOps.nil ?_
      obtain rfl := Sh.some_inj g_8
      exact ⟨rfl, rfl⟩
    ·
      replace g_8 := Sh.ite_neg hb g_8
      refine WpOps.pn 3 rfl trivial ?_
      refine WpOps.nil ?_
      obtain rfl := Sh.some_inj g_8
      exact ⟨rfl, rfl⟩
  intro env
  obtain ⟨b_9, g_9, h⟩ := Sh.bind_some h
  refine WpOps.cutB 4 83 (bA b_9) rfl ?_ ?_
  ·
    refine WpOps.pn 1 rfl trivial ?_
    refine WpOps.split 80 rfl (fun hb => ?_) (fun hb => ?_)
    ·
      replace g_9 := Sh.ite_pos hb g_9
      refine WpOps.pn 3 rfl trivial ?_
      refine WpOps.nil ?_
      obtain rfl := Sh.some_inj g_9
      exact ⟨rfl, rfl⟩
    ·
      replace g_9 := Sh.ite_neg hb g_9
      refine WpOps.pn 3 rfl trivial ?_
      refine WpOps.nil ?_
      obtain rfl := Sh.some_inj g_9
      exact ⟨rfl, rfl⟩
  intro env
  obtain ⟨b_10, g_10, h⟩ := Sh.bind_some h
  refine WpOps.cutB 4 87 (bA b_10) rfl ?_ ?_
  ·
    refine WpOps.pn 1 rfl trivial ?_
    refine WpOps.split 84 rfl (fun hb => ?_) (fun hb => ?_)
    ·
      replace g_10 := Sh.ite_pos hb g_10
      refine WpOps.pn 3 rfl trivial ?_
      refine WpOps.nil ?_
      obtain rfl := Sh.some_inj g_10
      exact ⟨rfl, rfl⟩
    ·
      replace g_10 := Sh.ite_neg hb g_10
      refine WpOps.pn 3 rfl trivial ?_
      refine WpOps.nil ?_
      obtain rfl := Sh.some_inj g_10
      exact ⟨rfl, rfl⟩
  intro env
  obtain ⟨b_11, g_11, h⟩ := Sh.bind_some h
  refine WpOps.cutB 4 91 (bA b_11) rfl ?_ ?_
  ·
    refine WpOps.pn 1 rfl trivial ?_
    refine WpOps.split 88 rfl (fun hb => ?_) (fun hb => ?_)
    ·
      replace g_11 := Sh.ite_pos hb g_11
      refine WpOps.pn 3 rfl trivial ?_
      refine WpOps.nil ?_
      obtain rfl := Sh.some_inj g_11
      exact ⟨rfl, rfl⟩
    ·
      replace g_11 := Sh.ite_neg hb g_11
      refine WpOps.pn 3 rfl trivial ?_
      refine WpOps.nil ?_
      obtain rfl := Sh.some_inj g_11
      exact ⟨rfl, rfl⟩
  intro env
  refine WpOps.pn 1 rfl trivial ?_
  refine WpOps.nil ?_
  obtain rfl := Sh.some_inj h
  refine WpC.ret ?_
  exact VEnds.ret1 rfl rfl ⟨rfl, hH⟩

theorem w_emendref02_Join {H0 : Heap} {text_1 : List UInt8} {r : List GChar} (h : emendref02_Join text_1 = some r) : TCall Try.prog 10 [(sA text_1)] H0 (fun v H' => v = (AV.rows 2 (List.map cGChar r)) ∧ H' = H0) noE := by
  refine TCall.body Try.func10 rfl rfl ?_
  have hH : Holds H0 [] H0 := rfl
  refine WpC.seqR ?_
  refine WpOps.pn 1 rfl trivial ?_
  refine WpOps.nil ?_
  refine WpC.seqR ?_
  refine WpOps.pn 1 rfl trivial ?_
  have hH := hH.nil 37 2
  refine WpOps.nil ?_
  refine WpC.seqR ?_
  refine WpOps.pn 1 rfl trivial ?_
  refine WpOps.nil ?_
  refine WpC.seqB (fun x : (List GChar) × ((Option (Nat × Nat))) => [(3, (.own (List.map cGChar x.1).length x.2))]) (fun x H' => emendref02_Join_j1 x.1 = some r ∧ Holds H0 [.own 37 2 x.2 (List.map cGChar x.1)] H') ?_ ?_
  ·
    obtain ⟨o_1, ho_1, hk_1⟩ := Sh.bind_some h
    refine WpC.loopS (emendref02_Join_b2 text_1) (fun (s : Int × List GChar) (a : (Option (Nat × Nat))) => [(0, (sA text_1)), (3, (.own (List.map cGChar s.2).length a)), (4, (iA s.1))]) (fun (s : Int × List GChar) (a : (Option (Nat × Nat))) H' => Holds H0 [.own 37 2 a (List.map cGChar s.2)] H') o_1 ((0 : Int), ([] : List GChar)) none ho_1 ⟨rfl, rfl, rfl, trivial⟩ hH ?_
    rintro ⟨i_1, out_1⟩ p_1 st_1 env H' h hd_1 hH
    refine WpC.seq ?_
    refine WpC.seqR ?_
    refine WpOps.pn 4 rfl trivial ?_
    refine WpOps.nil ?_
    refine WpC.condB rfl (fun hb => ?_) (fun hb => ?_)
    ·
      replace h := Sh.ite_pos hb h
      refine WpC.skipD ?_
      refine ⟨_, Heap.le_refl _, ?_⟩
      refine WpC.block ?_
      refine WpC.seq ?_
      refine WpC.seqR ?_
      obtain ⟨ch_1, hch_1, h⟩ := Sh.bind_some h
      refine WpOps.pn 2 rfl trivial ?_
      refine WpOps.consE (v := (u8A ch_1)) rfl rfl (Exact.ixs hch_1 rfl rfl rfl rfl) ?_
      refine WpOps.pn 1 rfl trivial ?_
      obtain ⟨b_1, g_1, h⟩ := Sh.bind_some h
      refine WpOps.cutB 7 19 (bA b_1) rfl ?_ ?_
      ·
        refine WpOps.pn 1 rfl trivial ?_
        refine WpOps.split 13 rfl (fun hb => ?_) (fun hb => ?_)
        ·
          replace g_1 := Sh.ite_pos hb g_1
          obtain ⟨c_1, g_1⟩ := Sh.chk_some g_1
          refine WpOps.pn 6 rfl c_1 ?_
          refine WpOps.nil ?_
          obtain rfl := Sh.some_inj g_1
          exact ⟨rfl, rfl⟩
        ·
          replace g_1 := Sh.ite_neg hb g_1
          refine WpOps.pn 6 rfl trivial ?_
          refine WpOps.nil ?_
          obtain rfl := Sh.some_inj g_1
          exact ⟨rfl, rfl⟩
      intro env
      obtain ⟨b_2, g_2, h⟩ := Sh.bind_some h
      refine WpOps.cutB 7 26 (bA b_2) rfl ?_ ?_
      ·
        refine WpOps.pn 1 rfl trivial ?_
        refine WpOps.split 20 rfl (fun hb => ?_) (fun hb => ?_)
        ·
          replace g_2 := Sh.ite_pos hb g_2
          obtain ⟨c_2, g_2⟩ := Sh.chk_some g_2
          obtain ⟨ch_2, hch_2, g_2⟩ := Sh.bind_some g_2
          refine WpOps.pn 3 rfl c_2 ?_
          refine WpOps.consE (v := (u8A ch_2)) rfl rfl (Exact.ixs hch_2 rfl rfl rfl rfl) ?_
          refine WpOps.pn 2 rfl trivial ?_
          refine WpOps.nil ?_
          obtain rfl := Sh.some_inj g_2
          exact ⟨rfl, rfl⟩
        ·
          replace g_2 := Sh.ite_neg hb g_2
          refine WpOps.pn 6 rfl trivial ?_
          refine WpOps.nil ?_
          obtain rfl := Sh.some_inj g_2
          exact ⟨rfl, rfl⟩
      intro env
      refine WpOps.nil ?_
      refine WpC.condB rfl (fun hb => ?_) (fun hb => ?_)
      ·
        replace h := Sh.ite_pos hb h
        refine WpC.seqR ?_
        obtain ⟨c_3, h⟩ := Sh.chk_some h
        refine WpOps.pn 3 rfl c_3 ?_
        refine WpOps.nil ?_
        refine WpC.exitD ?_
        obtain rfl := Sh.some_inj h
        exact ⟨_, (Heap.le_refl _), ((i_1 + (2 : Int)), out_1), p_1, rfl, ⟨rfl, rfl, rfl, trivial⟩, hH⟩
      ·
        replace h := Sh.ite_neg hb h
        refine WpC.skipD ?_
        refine ⟨_, Heap.le_refl _, ?_⟩
        refine WpC.seqR ?_
        obtain ⟨ch_3, hch_3, h⟩ := Sh.bind_some h
        refine WpOps.pn 3 rfl trivial ?_
        refine WpOps.consE (v := (u8A ch_3)) rfl rfl (Exact.ixs hch_3 rfl rfl rfl rfl) ?_
        refine WpOps.pn 2 rfl trivial ?_
        refine WpOps.consE (v := (AV.rows 2 (List.map cGChar ([(GChar.mk ch_3 i_1)] : List GChar)))) rfl rfl (Exact.litSlice rfl rfl) ?_
        obtain ⟨c_4, h⟩ := Sh.chk_some h
        refine WpOps.consG rfl rfl (WpO.pushT cGChar out_1 ([(GChar.mk ch_3 i_1)] : List GChar) (i := 0) rfl ek23 hH rfl rfl rfl (.rows _) (fun y _ => one_cGChar y) (by simp) c_4 (by decide) fun p_2 H' hH => ?_)
        refine WpOps.pn 1 rfl trivial ?_
        refine WpOps.nil ?_
        refine WpC.regionD ?_
        obtain ⟨c_5, h⟩ := Sh.chk_some h
        refine WpOps.pn 3 rfl c_5 ?_
        refine WpOps.nil ?_
        obtain rfl := Sh.some_inj h
        exact ⟨_, (Heap.le_refl _), ((i_1 + (1 : Int)), (out_1 ++ ([(GChar.mk ch_3 i_1)] : List GChar))), p_2, rfl, ⟨rfl, rfl, rfl, trivial⟩, hH⟩
    ·
      replace h := Sh.ite_neg hb h
      obtain rfl := Sh.some_inj h
      have e := hd_1 _ rfl
      subst e
      refine WpC.exit ?_
      exact ⟨(out_1, p_1), ⟨rfl, trivial⟩, hk_1, hH⟩
  ·
    rintro ⟨out_2, p_3⟩ env H' ⟨h, hH⟩
    refine WpC.seqR ?_
    refine WpOps.pn 2 rfl trivial ?_
    refine WpOps.nil ?_
    refine WpC.freeze (t := 2) (i := 0) hH rfl rfl (fun H' hH => ?_)
    obtain rfl := Sh.some_inj h
    refine WpC.ret ?_
    exact VEnds.ret1 rfl rfl ⟨rfl, hH⟩

theorem w_emendref02_Text {H0 : Heap} {l_1 : List GChar} {r : List UInt8} (h : emendref02_Text l_1 = some r) : TCall Try.prog 14 [(AV.rows 2 (List.map cGChar l_1))] H0 (fun v H' => v = (sA r) ∧ H' = H0) noE := by
  refine TCall.body Try.func14 rfl rfl ?_
  have hH : Holds H0 [] H0 := rfl
  refine WpC.seqR ?_
  refine WpOps.pn 1 rfl trivial ?_
  refine WpOps.nil ?_
  refine WpC.seqR ?_
  refine WpOps.pn 1 rfl trivial ?_
  refine WpOps.nil ?_
  refine WpC.seq ?_
  refine WpC.seqR ?_
  refine WpOps.pn 1 rfl trivial ?_
  refine WpOps.nil ?_
  refine WpC.blockK (fun x : (List UInt8) × (Unit) => [(3, (sA x.1))]) (fun x H' => emendref02_Text_j1 x.1 = some r ∧ Holds H0 [] H') ?_ ?_
  ·
    obtain ⟨o_1, ho_1, hk_1⟩ := Sh.bind_some h
    refine WpC.loopS (emendref02_Text_b2 l_1) (fun (s : List UInt8 × Int) (a : Unit) => [(0, (AV.rows 2 (List.map cGChar l_1))), (3, (sA s.1)), (4, (iA s.2))]) (fun (s : List UInt8 × Int) (a : Unit) H' => Holds H0 [] H') o_1 (([] : List UInt8), (0 : Int)) () ho_1 ⟨rfl, rfl, rfl, trivial⟩ hH ?_
    rintro ⟨s_1, i_1⟩ _ st_1 env H' h hd_1 hH
    refine WpC.seq ?_
    refine WpC.seqR ?_
    refine WpOps.pn 3 rfl trivial ?_
    refine WpOps.at 7 (len_map _ _) ?_
    refine WpOps.pn 1 rfl trivial ?_
    refine WpOps.nil ?_
    refine WpC.condB rfl (fun hb => ?_) (fun hb => ?_)
    ·
      replace h := Sh.ite_pos hb h
      refine WpC.skipD ?_
      refine ⟨_, Heap.le_refl _, ?_⟩
      refine WpC.seq ?_
      refine WpC.block ?_
      refine WpC.regionD ?_
      obtain ⟨y_1, hy_1, h⟩ := Sh.bind_some h
      refine WpOps.pn 3 rfl trivial ?_
      refine WpOps.consE (v := (.rop (cGChar y_1))) rfl rfl (Exact.ixr cGChar hy_1 rfl rfl rfl rfl (by kernel_rfl) (by decide)) ?_
      refine WpOps.pn 1 rfl trivial ?_
      refine WpOps.consE (v := (u8A y_1.b)) rfl rfl (Exact.load_rop rfl rfl rfl) ?_
      refine WpOps.consE (v := (AV.rows 1 (List.map cU ([y_1.b] : List UInt8)))) rfl rfl (Exact.litSlice rfl rfl) ?_
      refine WpOps.consE (v := (sA ([y_1.b] : List UInt8))) rfl rfl (Exact.string_of_bytes (bs := ([y_1.b] : List UInt8)) rfl rfl rfl rfl rfl (.rows _)) ?_
      obtain ⟨c_1, h⟩ := Sh.chk_some h
      refine WpOps.pn 2 rfl c_1 ?_
      refine WpOps.nil ?_
      refine ⟨_, Heap.le_refl _, ?_⟩
      refine WpC.regionD ?_
      obtain ⟨c_2, h⟩ := Sh.chk_some h
      refine WpOps.pn 3 rfl c_2 ?_
      refine WpOps.nil ?_
      obtain rfl := Sh.some_inj h
      exact ⟨_, (Heap.le_refl _), ((s_1 ++ ([y_1.b] : List UInt8)), (i_1 + (1 : Int))), (), rfl, ⟨rfl, rfl, rfl, trivial⟩, hH⟩
    ·
      replace h := Sh.ite_neg hb h
      obtain rfl := Sh.some_inj h
      have e := hd_1 _ rfl
      subst e
      refine WpC.exit ?_
      exact ⟨(s_1, ()), ⟨rfl, trivial⟩, hk_1, hH⟩
  ·
    rintro ⟨s_2, _⟩ env H' ⟨h, hH⟩
    refine ⟨_, Heap.le_refl _, ?_⟩
    refine WpC.seqR ?_
    refine WpOps.pn 2 rfl trivial ?_
    refine WpOps.nil ?_
    obtain rfl := Sh.some_inj h
    refine WpC.ret ?_
    exact VEnds.ret1 rfl rfl ⟨rfl, hH⟩

theorem w_emendlaw02_SpliceJoins {H0 : Heap} (hG : Glob H0) {text_1 : List UInt8} {r : Bool} (h : emendlaw02_SpliceJoins text_1 = some r) : TCall Try.prog 3 [(sA text_1)] H0 (fun v H' => v = (bA r) ∧ H' = H0) noE := by
  refine TCall.body Try.func3 rfl rfl ?_
  have hH : Holds H0 [] H0 := rfl
  refine WpC.seqR ?_
  refine WpOps.pn 1 rfl trivial ?_
  refine WpOps.nil ?_
  refine WpC.seqR ?_
  obtain ⟨r_1, hr_1, h⟩ := Sh.bind_some h
  refine WpOps.consE (v := (bA r_1)) rfl rfl (Exact.call rfl rfl rfl (w_emendlaw02_awake (hG.up hH) hr_1)) ?_
  refine WpOps.pn 1 rfl trivial ?_
  refine WpOps.nil ?_
  refine WpC.seq ?_
  refine WpC.seqR ?_
  refine WpOps.pn 3 rfl trivial ?_
  refine WpOps.nil ?_
  refine WpC.condB rfl (fun hb => ?_) (fun hb => ?_)
  ·
    replace h := Sh.ite_pos hb h
    refine WpC.seqR ?_
    refine WpOps.pn 2 rfl trivial ?_
    refine WpOps.nil ?_
    obtain rfl := Sh.some_inj h
    refine WpC.ret ?_
    exact VEnds.ret1 rfl rfl ⟨rfl, hH⟩
  ·
    replace h := Sh.ite_neg hb h
    refine WpC.skipD ?_
    refine ⟨_, Heap.le_refl _, ?_⟩
    refine WpC.seqR ?_
    obtain ⟨r_2, hr_2, h⟩ := Sh.bind_some h
    refine WpOps.pn 1 rfl trivial ?_
    refine WpOps.consE (v := (AV.rows 2 (List.map cGChar r_2))) rfl rfl (Exact.call rfl rfl rfl (w_splice_Join hr_2)) ?_
    refine WpOps.pn 1 rfl trivial ?_
    refine WpOps.nil ?_
    refine WpC.seqR ?_
    obtain ⟨r_3, hr_3, h⟩ := Sh.bind_some h
    refine WpOps.pn 1 rfl trivial ?_
    refine WpOps.consE (v := (AV.rows 2 (List.map cGChar r_3))) rfl rfl (Exact.call rfl rfl rfl (w_emendref02_Join hr_3)) ?_
    refine WpOps.pn 1 rfl trivial ?_
    refine WpOps.nil ?_
    refine WpC.seqR ?_
    obtain ⟨r_4, hr_4, h⟩ := Sh.bind_some h
    refine WpOps.pn 1 rfl trivial ?_
    refine WpOps.consE (v := (iA r_4)) rfl rfl (Exact.call rfl rfl rfl (w_splice_Pairs (hG.up hH) hr_4)) ?_
    refine WpOps.pn 1 rfl trivial ?_
    refine WpOps.nil ?_
    refine WpC.seqR ?_
    obtain ⟨r_5, hr_5, h⟩ := Sh.bind_some h
    refine WpOps.pn 1 rfl trivial ?_
    refine WpOps.consE (v := (sA r_5)) rfl rfl (Exact.call rfl rfl rfl (w_splice_Text hr_5)) ?_
    refine WpOps.pn 1 rfl trivial ?_
    refine WpOps.nil ?_
    refine WpC.seqR ?_
    refine WpOps.pn 1 rfl trivial ?_
    obtain ⟨b_1, g_1, h⟩ := Sh.bind_some h
    refine WpOps.cutB 5 26 (bA b_1) rfl ?_ ?_
    ·
      refine WpOps.pn 1 rfl trivial ?_
      refine WpOps.split 22 rfl (fun hb => ?_) (fun hb => ?_)
      ·
        replace g_1 := Sh.ite_pos hb g_1
        obtain ⟨r_6, hr_6, g_1⟩ := Sh.bind_some g_1
        refine WpOps.pn 2 rfl trivial ?_
        refine WpOps.consE (v := (bA r_6)) rfl rfl (Exact.call rfl rfl rfl (w_emendref02_Same hr_6)) ?_
        refine WpOps.pn 1 rfl trivial ?_
        refine WpOps.nil ?_
        obtain rfl := Sh.some_inj g_1
        exact ⟨rfl, rfl⟩
      ·
        replace g_1 := Sh.ite_neg hb g_1
        refine WpOps.pn 4 rfl trivial ?_
        refine WpOps.nil ?_
        obtain rfl := Sh.some_inj g_1
        exact ⟨rfl, rfl⟩
    intro env
    obtain ⟨b_2, g_2, h⟩ := Sh.bind_some h
    refine WpOps.cutB 10 36 (bA b_2) rfl ?_ ?_
    ·
      refine WpOps.pn 1 rfl trivial ?_
      refine WpOps.split 27 rfl (fun hb => ?_) (fun hb => ?_)
      ·
        replace g_2 := Sh.ite_pos hb g_2
        obtain ⟨c_1, g_2⟩ := Sh.chk_some g_2
        refine WpOps.pn 6 rfl c_1 ?_
        refine WpOps.at 33 (len_map _ _) ?_
        obtain ⟨c_2, g_2⟩ := Sh.chk_some g_2
        refine WpOps.pn 3 rfl c_2 ?_
        refine WpOps.nil ?_
        obtain rfl := Sh.some_inj g_2
        exact ⟨rfl, rfl⟩
      ·
        replace g_2 := Sh.ite_neg hb g_2
        refine WpOps.pn 9 rfl trivial ?_
        refine WpOps.nil ?_
        obtain rfl := Sh.some_inj g_2
        exact ⟨rfl, rfl⟩
    intro env
    obtain ⟨b_3, g_3, h⟩ := Sh.bind_some h
    refine WpOps.cutB 6 42 (bA b_3) rfl ?_ ?_
    ·
      refine WpOps.pn 1 rfl trivial ?_
      refine WpOps.split 37 rfl (fun hb => ?_) (fun hb => ?_)
      ·
        replace g_3 := Sh.ite_pos hb g_3
        obtain ⟨r_7, hr_7, g_3⟩ := Sh.bind_some g_3
        refine WpOps.pn 2 rfl trivial ?_
        refine WpOps.consE (v := (sA r_7)) rfl rfl (Exact.call rfl rfl rfl (w_emendref02_Text hr_7)) ?_
        refine WpOps.pn 2 rfl trivial ?_
        refine WpOps.nil ?_
        obtain rfl := Sh.some_inj g_3
        exact ⟨rfl, rfl⟩
      ·
        replace g_3 := Sh.ite_neg hb g_3
        refine WpOps.pn 5 rfl trivial ?_
        refine WpOps.nil ?_
        obtain rfl := Sh.some_inj g_3
        exact ⟨rfl, rfl⟩
    intro env
    refine WpOps.pn 1 rfl trivial ?_
    refine WpOps.nil ?_
    obtain rfl := Sh.some_inj h
    refine WpC.ret ?_
    exact VEnds.ret1 rfl rfl ⟨rfl, hH⟩

theorem w_emendref02_Span {H0 : Heap} {text_1 : List UInt8} {from_1 : Int} {to_1 : Int} {r : Int × Int × Int} (h : emendref02_Span text_1 from_1 to_1 = some r) : TCall Try.prog 16 [(sA text_1), (iA from_1), (iA to_1)] H0 (fun v H' => v = (.tup [(iA r.1), (iA r.2.1), (iA r.2.2)]) ∧ H' = H0) noE := by
  refine TCall.body Try.func16 rfl rfl ?_
  have hH : Holds H0 [] H0 := rfl
  refine WpC.seqR ?_
  refine WpOps.pn 3 rfl trivial ?_
  refine WpOps.nil ?_
  refine WpC.seqR ?_
  obtain ⟨r_1, hr_1, h⟩ := Sh.bind_some h
  refine WpOps.pn 1 rfl trivial ?_
  refine WpOps.consE (v := (AV.rows 2 (List.map cGChar r_1))) rfl rfl (Exact.call rfl rfl rfl (w_emendref02_Join hr_1)) ?_
  refine WpOps.pn 1 rfl trivial ?_
  refine WpOps.nil ?_
  refine WpC.seq ?_
  refine WpC.seqR ?_
  refine WpOps.pn 2 rfl trivial ?_
  obtain ⟨b_1, g_1, h⟩ := Sh.bind_some h
  refine WpOps.cutB 5 18 (bA b_1) rfl ?_ ?_
  ·
    refine WpOps.pn 1 rfl trivial ?_
    refine WpOps.split 14 rfl (fun hb => ?_) (fun hb => ?_)
    ·
      replace g_1 := Sh.ite_pos hb g_1
      refine WpOps.pn 4 rfl trivial ?_
      refine WpOps.nil ?_
      obtain rfl := Sh.some_inj g_1
      exact ⟨rfl, rfl⟩
    ·
      replace g_1 := Sh.ite_neg hb g_1
      refine WpOps.pn 4 rfl trivial ?_
      refine WpOps.nil ?_
      obtain rfl := Sh.some_inj g_1
      exact ⟨rfl, rfl⟩
  intro env
  obtain ⟨b_2, g_2, h⟩ := Sh.bind_some h
  refine WpOps.cutB 6 24 (bA b_2) rfl ?_ ?_
  ·
    refine WpOps.pn 1 rfl trivial ?_
    refine WpOps.split 19 rfl (fun hb => ?_) (fun hb => ?_)
    ·
      replace g_2 := Sh.ite_pos hb g_2
      refine WpOps.pn 5 rfl trivial ?_
      refine WpOps.nil ?_
      obtain rfl := Sh.some_inj g_2
      exact ⟨rfl, rfl⟩
    ·
      replace g_2 := Sh.ite_neg hb g_2
      refine WpOps.pn 3 rfl trivial ?_
      refine WpOps.at 22 (len_map _ _) ?_
      refine WpOps.pn 2 rfl trivial ?_
      refine WpOps.nil ?_
      obtain rfl := Sh.some_inj g_2
      exact ⟨rfl, rfl⟩
  intro env
  refine WpOps.nil ?_
  refine WpC.condB rfl (fun hb => ?_) (fun hb => ?_)
  ·
    replace h := Sh.ite_pos hb h
    refine WpC.seqR ?_
    refine WpOps.pn 3 rfl trivial ?_
    refine WpOps.nil ?_
    obtain rfl := Sh.some_inj h
    refine WpC.ret ?_
    exact VEnds.ret3 rfl rfl rfl rfl ⟨rfl, hH⟩
  ·
    replace h := Sh.ite_neg hb h
    refine WpC.skipD ?_
    refine ⟨_, Heap.le_refl _, ?_⟩
    refine WpC.seq ?_
    refine WpC.seqR ?_
    refine WpOps.pn 3 rfl trivial ?_
    refine WpOps.nil ?_
    refine WpC.condB rfl (fun hb => ?_) (fun hb => ?_)
    ·
      replace h := Sh.ite_pos hb h
      refine WpC.seq ?_
      refine WpC.seqR ?_
      refine WpOps.pn 3 rfl trivial ?_
      refine WpOps.at 30 (len_map _ _) ?_
      refine WpOps.pn 1 rfl trivial ?_
      refine WpOps.nil ?_
      refine WpC.condB rfl (fun hb => ?_) (fun hb => ?_)
      ·
        replace h := Sh.ite_pos hb h
        refine WpC.seqR ?_
        refine WpOps.pn 7 rfl trivial ?_
        refine WpOps.nil ?_
        obtain rfl := Sh.some_inj h
        refine WpC.ret ?_
        exact VEnds.ret3 rfl rfl rfl rfl ⟨rfl, hH⟩
      ·
        replace h := Sh.ite_neg hb h
        refine WpC.skipD ?_
        refine ⟨_, Heap.le_refl _, ?_⟩
        refine WpC.seqD [] [0, 1, 2, 3, 4, 5, 6, 7, 8, 9, 10, 11, 12] (by kernel_rfl) (by kernel_rfl) ?_
        obtain ⟨y_1, hy_1, h⟩ := Sh.bind_some h
        refine WpPi.pn 2 rfl trivial ?_
        refine WpPi.consI (v := (.rop (cGChar y_1))) rfl rfl rfl rfl (fun _ => Exact.ixr cGChar hy_1 rfl rfl rfl rfl (by kernel_rfl) (by decide)) ?_
        refine WpPi.pn 1 rfl trivial ?_
        refine WpPi.consI (v := (iA y_1.at_)) rfl rfl rfl rfl (fun _ => Exact.load_rop rfl rfl rfl) ?_
        obtain ⟨y_2, hy_2, h⟩ := Sh.bind_some h
        refine WpPi.pn 2 rfl trivial ?_
        refine WpPi.consI (v := (.rop (cGChar y_2))) rfl rfl rfl rfl (fun _ => Exact.ixr cGChar hy_2 rfl rfl rfl rfl (by kernel_rfl) (by decide)) ?_
        refine WpPi.pn 1 rfl trivial ?_
        refine WpPi.consI (v := (iA y_2.at_)) rfl rfl rfl rfl (fun _ => Exact.load_rop rfl rfl rfl) ?_
        refine WpPi.pn 3 rfl trivial ?_
        refine WpPi.nil ?_
        obtain rfl := Sh.some_inj h
        refine WpC.ret ?_
        exact VEnds.ret3 rfl rfl rfl rfl ⟨rfl, hH⟩
    ·
      replace h := Sh.ite_neg hb h
      refine WpC.skipD ?_
      refine ⟨_, Heap.le_refl _, ?_⟩
      refine WpC.seqD [] [0, 1, 2, 3, 4, 5, 6, 7, 8, 9, 10, 11, 12, 13, 14] (by kernel_rfl) (by kernel_rfl) ?_
      obtain ⟨y_3, hy_3, h⟩ := Sh.bind_some h
      refine WpPi.pn 2 rfl trivial ?_
      refine WpPi.consI (v := (.rop (cGChar y_3))) rfl rfl rfl rfl (fun _ => Exact.ixr cGChar hy_3 rfl rfl rfl rfl (by kernel_rfl) (by decide)) ?_
      refine WpPi.pn 1 rfl trivial ?_
      refine WpPi.consI (v := (iA y_3.at_)) rfl rfl rfl rfl (fun _ => Exact.load_rop rfl rfl rfl) ?_
      obtain ⟨c_1, h⟩ := Sh.chk_some h
      obtain ⟨y_4, hy_4, h⟩ := Sh.bind_some h
      refine WpPi.pn 3 rfl c_1 ?_
      refine WpPi.consI (v := (.rop (cGChar y_4))) rfl rfl rfl rfl (fun _ => Exact.ixr cGChar hy_4 rfl rfl rfl rfl (by kernel_rfl) (by decide)) ?_
      refine WpPi.pn 1 rfl trivial ?_
      refine WpPi.consI (v := (iA y_4.at_)) rfl rfl rfl rfl (fun _ => Exact.load_rop rfl rfl rfl) ?_
      obtain ⟨c_2, h⟩ := Sh.chk_some h
      refine WpPi.pn 4 rfl c_2 ?_
      refine WpPi.nil ?_
      obtain rfl := Sh.some_inj h
      refine WpC.ret ?_
      exact VEnds.ret3 rfl rfl rfl rfl ⟨rfl, hH⟩

theorem w_emendlaw02_SpliceSpans {H0 : Heap} (hG : Glob H0) {text_1 : List UInt8} {from_1 : Int} {to_1 : Int} {r : Bool} (h : emendlaw02_SpliceSpans text_1 from_1 to_1 = some r) : TCall Try.prog 4 [(sA text_1), (iA from_1), (iA to_1)] H0 (fun v H' => v = (bA r) ∧ H' = H0) noE := by
  refine TCall.body Try.func4 rfl rfl ?_
  have hH : Holds H0 [] H0 := rfl
  refine WpC.seqR ?_
  refine WpOps.pn 1 rfl trivial ?_
  refine WpOps.nil ?_
  refine WpC.seqR ?_
  obtain ⟨r_1, hr_1, h⟩ := Sh.bind_some h
  refine WpOps.consE (v := (bA r_1)) rfl rfl (Exact.call rfl rfl rfl (w_emendlaw02_awake (hG.up hH) hr_1)) ?_
  refine WpOps.pn 1 rfl trivial ?_
  refine WpOps.nil ?_
  refine WpC.seq ?_
  refine WpC.seqR ?_
  refine WpOps.pn 3 rfl trivial ?_
  refine WpOps.nil ?_
  refine WpC.condB rfl (fun hb => ?_) (fun hb => ?_)
  ·
    replace h := Sh.ite_pos hb h
    refine WpC.seqR ?_
    refine WpOps.pn 2 rfl trivial ?_
    refine WpOps.nil ?_
    obtain rfl := Sh.some_inj h
    refine WpC.ret ?_
    exact VEnds.ret1 rfl rfl ⟨rfl, hH⟩
  ·
    replace h := Sh.ite_neg hb h
    refine WpC.skipD ?_
    refine ⟨_, Heap.le_refl _, ?_⟩
    refine WpC.seqR ?_
    obtain ⟨r_2, hr_2, h⟩ := Sh.bind_some h
    refine WpOps.pn 3 rfl trivial ?_
    refine WpOps.consE (v := (.tup [(iA r_2.1), (iA r_2.2.1), (iA r_2.2.2)])) rfl rfl (Exact.call rfl rfl rfl (w_splice_Span hr_2)) ?_
    refine WpOps.pn 7 rfl trivial ?_
    refine WpOps.nil ?_
    refine WpC.seqR ?_
    obtain ⟨r_3, hr_3, h⟩ := Sh.bind_some h
    refine WpOps.pn 3 rfl trivial ?_
    refine WpOps.consE (v := (.tup [(iA r_3.1), (iA r_3.2.1), (iA r_3.2.2)])) rfl rfl (Exact.call rfl rfl rfl (w_emendref02_Span hr_3)) ?_
    refine WpOps.pn 7 rfl trivial ?_
    refine WpOps.nil ?_
    refine WpC.seqR ?_
    refine WpOps.pn 1 rfl trivial ?_
    obtain ⟨b_1, g_1, h⟩ := Sh.bind_some h
    refine WpOps.cutB 5 40 (bA b_1) rfl ?_ ?_
    ·
      refine WpOps.pn 1 rfl trivial ?_
      refine WpOps.split 36 rfl (fun hb => ?_) (fun hb => ?_)
      ·
        replace g_1 := Sh.ite_pos hb g_1
        refine WpOps.pn 4 rfl trivial ?_
        refine WpOps.nil ?_
        obtain rfl := Sh.some_inj g_1
        exact ⟨rfl, rfl⟩
      ·
        replace g_1 := Sh.ite_neg hb g_1
        refine WpOps.pn 4 rfl trivial ?_
        refine WpOps.nil ?_
        obtain rfl := Sh.some_inj g_1
        exact ⟨rfl, rfl⟩
    intro env
    obtain ⟨b_2, g_2, h⟩ := Sh.bind_some h
    refine WpOps.cutB 5 45 (bA b_2) rfl ?_ ?_
    ·
      refine WpOps.pn 1 rfl trivial ?_
      refine WpOps.split 41 rfl (fun hb => ?_) (fun hb => ?_)
      ·
        replace g_2 := Sh.ite_pos hb g_2
        refine WpOps.pn 4 rfl trivial ?_
        refine WpOps.nil ?_
        obtain rfl := Sh.some_inj g_2
        exact ⟨rfl, rfl⟩
      ·
        replace g_2 := Sh.ite_neg hb g_2
        refine WpOps.pn 4 rfl trivial ?_
        refine WpOps.nil ?_
        obtain rfl := Sh.some_inj g_2
        exact ⟨rfl, rfl⟩
    intro env
    obtain ⟨b_3, g_3, h⟩ := Sh.bind_some h
    refine WpOps.cutB 5 50 (bA b_3) rfl ?_ ?_
    ·
      refine WpOps.pn 1 rfl trivial ?_
      refine WpOps.split 46 rfl (fun hb => ?_) (fun hb => ?_)
      ·
        replace g_3 := Sh.ite_pos hb g_3
        refine WpOps.pn 4 rfl trivial ?_
        refine WpOps.nil ?_
        obtain rfl := Sh.some_inj g_3
        exact ⟨rfl, rfl⟩
      ·
        replace g_3 := Sh.ite_neg hb g_3
        refine WpOps.pn 4 rfl trivial ?_
        refine WpOps.nil ?_
        obtain rfl := Sh.some_inj g_3
        exact ⟨rfl, rfl⟩
    intro env
    refine WpOps.pn 1 rfl trivial ?_
    refine WpOps.nil ?_
    obtain rfl := Sh.some_inj h
    refine WpC.ret ?_
    exact VEnds.ret1 rfl rfl ⟨rfl, hH⟩

theorem w_emendref02_Spread {H0 : Heap} {s_1 : List UInt8} {places_1 : List Int} {r : List UInt8} (h : emendref02_Spread s_1 places_1 = some r) : TCall Try.prog 18 [(sA s_1), (AV.rows 1 (List.map cI places_1))] H0 (fun v H' => v = (sA r) ∧ H' = H0) noE := by
  refine TCall.body Try.func18 rfl rfl ?_
  have hH : Holds H0 [] H0 := rfl
  refine WpC.seqR ?_
  refine WpOps.pn 1 rfl trivial ?_
  refine WpOps.nil ?_
  refine WpC.seqR ?_
  refine WpOps.pn 1 rfl trivial ?_
  refine WpOps.nil ?_
  refine WpC.seq ?_
  refine WpC.seqR ?_
  refine WpOps.pn 1 rfl trivial ?_
  refine WpOps.nil ?_
  refine WpC.blockK (fun x : (List UInt8) × (Unit) => [(5, (sA x.1))]) (fun x H' => emendref02_Spread_j1 x.1 = some r ∧ Holds H0 [] H') ?_ ?_
  ·
    obtain ⟨o_1, ho_1, hk_1⟩ := Sh.bind_some h
    refine WpC.loopS (emendref02_Spread_b2 s_1 places_1) (fun (s : List UInt8 × Int) (a : Unit) => [(0, (sA s_1)), (1, (AV.rows 1 (List.map cI places_1))), (5, (sA s.1)), (6, (iA s.2))]) (fun (s : List UInt8 × Int) (a : Unit) H' => Holds H0 [] H') o_1 (([] : List UInt8), (0 : Int)) () ho_1 ⟨rfl, rfl, rfl, rfl, trivial⟩ hH ?_
    rintro ⟨out_1, i_1⟩ _ st_1 env H' h hd_1 hH
    refine WpC.seq ?_
    refine WpC.seqR ?_
    refine WpOps.pn 4 rfl trivial ?_
    refine WpOps.nil ?_
    refine WpC.condB rfl (fun hb => ?_) (fun hb => ?_)
    ·
      replace h := Sh.ite_pos hb h
      refine WpC.skipD ?_
      refine ⟨_, Heap.le_refl _, ?_⟩
      refine WpC.seq ?_
      refine WpC.block ?_
      refine WpC.seq ?_
      refine WpC.seqR ?_
      refine WpOps.pn 1 rfl trivial ?_
      refine WpOps.nil ?_
      refine WpC.blockK (fun x : (List UInt8) × (Unit) => [(0, (sA s_1)), (1, (AV.rows 1 (List.map cI places_1))), (5, (sA x.1)), (6, (iA i_1))]) (fun x H' => (emendref02_Spread_j3 s_1 i_1) x.1 = some st_1 ∧ Holds H0 [] H') ?_ ?_
      ·
        obtain ⟨o_2, ho_2, hk_2⟩ := Sh.bind_some h
        refine WpC.loopS (emendref02_Spread_b4 places_1 i_1) (fun (s : List UInt8 × Int) (a : Unit) => [(0, (sA s_1)), (1, (AV.rows 1 (List.map cI places_1))), (5, (sA s.1)), (6, (iA i_1)), (7, (iA s.2))]) (fun (s : List UInt8 × Int) (a : Unit) H' => Holds H0 [] H') o_2 (out_1, (0 : Int)) () ho_2 ⟨rfl, rfl, rfl, rfl, rfl, trivial⟩ hH ?_
        rintro ⟨out_2, k_1⟩ _ st_2 env H' h hd_2 hH
        refine WpC.seq ?_
        refine WpC.seqR ?_
        refine WpOps.pn 3 rfl trivial ?_
        refine WpOps.at 16 (len_map _ _) ?_
        refine WpOps.pn 1 rfl trivial ?_
        refine WpOps.nil ?_
        refine WpC.condB rfl (fun hb => ?_) (fun hb => ?_)
        ·
          replace h := Sh.ite_pos hb h
          refine WpC.skipD ?_
          refine ⟨_, Heap.le_refl _, ?_⟩
          refine WpC.seq ?_
          refine WpC.block ?_
          refine WpC.seqR ?_
          obtain ⟨y_1, hy_1, h⟩ := Sh.bind_some h
          refine WpOps.pn 2 rfl trivial ?_
          refine WpOps.consE (v := (.rop (cI y_1))) rfl rfl (Exact.ixr cI hy_1 rfl rfl rfl rfl (by kernel_rfl) (by decide)) ?_
          refine WpOps.consE (v := (iA y_1)) rfl rfl (Exact.load_rop rfl rfl rfl) ?_
          refine WpOps.pn 2 rfl trivial ?_
          refine WpOps.nil ?_
          refine WpC.condB rfl (fun hb => ?_) (fun hb => ?_)
          ·
            replace h := Sh.ite_pos hb h
            refine WpC.regionD ?_
            refine WpOps.pn 1 rfl trivial ?_
            refine WpOps.consE (v := (AV.rows 1 (List.map cU ([(92 : UInt8), (10 : UInt8)] : List UInt8)))) rfl rfl (Exact.litSlice rfl rfl) ?_
            refine WpOps.consE (v := (sA ([(92 : UInt8), (10 : UInt8)] : List UInt8))) rfl rfl (Exact.string_of_bytes (bs := ([(92 : UInt8), (10 : UInt8)] : List UInt8)) rfl rfl rfl rfl rfl (.rows _)) ?_
            obtain ⟨c_1, h⟩ := Sh.chk_some h
            refine WpOps.pn 2 rfl c_1 ?_
            refine WpOps.nil ?_
            refine ⟨_, Heap.le_refl _, ?_⟩
            refine WpC.regionD ?_
            obtain ⟨c_2, h⟩ := Sh.chk_some h
            refine WpOps.pn 3 rfl c_2 ?_
            refine WpOps.nil ?_
            obtain rfl := Sh.some_inj h
            exact ⟨_, (Heap.le_refl _), ((out_2 ++ ([(92 : UInt8), (10 : UInt8)] : List UInt8)), (k_1 + (1 : Int))), (), rfl, ⟨rfl, rfl, rfl, rfl, rfl, trivial⟩, hH⟩
          ·
            replace h := Sh.ite_neg hb h
            refine WpC.skipD ?_
            refine ⟨_, Heap.le_refl _, ?_⟩
            refine WpC.regionD ?_
            obtain ⟨c_3, h⟩ := Sh.chk_some h
            refine WpOps.pn 3 rfl c_3 ?_
            refine WpOps.nil ?_
            obtain rfl := Sh.some_inj h
            exact ⟨_, (Heap.le_refl _), (out_2, (k_1 + (1 : Int))), (), rfl, ⟨rfl, rfl, rfl, rfl, rfl, trivial⟩, hH⟩
        ·
          replace h := Sh.ite_neg hb h
          obtain rfl := Sh.some_inj h
          have e := hd_2 _ rfl
          subst e
          refine WpC.exit ?_
          exact ⟨(out_2, ()), ⟨rfl, rfl, rfl, rfl, trivial⟩, hk_2, hH⟩
      ·
        rintro ⟨out_3, _⟩ env H' ⟨h, hH⟩
        refine ⟨_, Heap.le_refl _, ?_⟩
        refine WpC.seqR ?_
        refine WpOps.pn 4 rfl trivial ?_
        refine WpOps.nil ?_
        refine WpC.condB rfl (fun hb => ?_) (fun hb => ?_)
        ·
          replace h := Sh.ite_pos hb h
          refine WpC.regionD ?_
          obtain ⟨c_4, h⟩ := Sh.chk_some h
          obtain ⟨c_5, h⟩ := Sh.chk_some h
          refine WpOps.pn 5 rfl c_4 ?_
          refine WpOps.pn 1 rfl (show 0 ≤ i_1 ∧ 0 ≤ (i_1 + (1 : Int)) ∧ ((i_1).toNat ≤ ((i_1 + (1 : Int))).toNat ∧ ((i_1 + (1 : Int))).toNat ≤ s_1.length) from ⟨(by omega), (by omega), (by omega)⟩) ?_
          obtain ⟨c_6, h⟩ := Sh.chk_some h
          refine WpOps.pn 2 rfl c_6 ?_
          refine WpOps.nil ?_
          refine ⟨_, Heap.le_refl _, ?_⟩
          refine WpC.regionD ?_
          obtain ⟨c_7, h⟩ := Sh.chk_some h
          refine WpOps.pn 3 rfl c_7 ?_
          refine WpOps.nil ?_
          obtain rfl := Sh.some_inj h
          exact ⟨_, (Heap.le_refl _), ((out_3 ++ ((s_1.drop (i_1).toNat).take (((i_1 + (1 : Int))).toNat - (i_1).toNat))), (i_1 + (1 : Int))), (), rfl, ⟨rfl, rfl, rfl, rfl, trivial⟩, hH⟩
        ·
          replace h := Sh.ite_neg hb h
          refine WpC.skipD ?_
          refine ⟨_, Heap.le_refl _, ?_⟩
          refine WpC.regionD ?_
          obtain ⟨c_8, h⟩ := Sh.chk_some h
          refine WpOps.pn 3 rfl c_8 ?_
          refine WpOps.nil ?_
          obtain rfl := Sh.some_inj h
          exact ⟨_, (Heap.le_refl _), (out_3, (i_1 + (1 : Int))), (), rfl, ⟨rfl, rfl, rfl, rfl, trivial⟩, hH⟩
    ·
      replace h := Sh.ite_neg hb h
      obtain rfl := Sh.some_inj h
      have e := hd_1 _ rfl
      subst e
      refine WpC.exit ?_
      exact ⟨(out_1, ()), ⟨rfl, trivial⟩, hk_1, hH⟩
  ·
    rintro ⟨out_4, _⟩ env H' ⟨h, hH⟩
    refine ⟨_, Heap.le_refl _, ?_⟩
    refine WpC.seqR ?_
    refine WpOps.pn 2 rfl trivial ?_
    refine WpOps.nil ?_
    obtain rfl := Sh.some_inj h
    refine WpC.ret ?_
    exact VEnds.ret1 rfl rfl ⟨rfl, hH⟩

theorem w_emendlaw02_SpliceSpreads {H0 : Heap} (hG : Glob H0) {s_1 : List UInt8} {places_1 : List Int} {r : Bool} (h : emendlaw02_SpliceSpreads s_1 places_1 = some r) : TCall Try.prog 5 [(sA s_1), (AV.rows 1 (List.map cI places_1))] H0 (fun v H' => v = (bA r) ∧ H' = H0) noE := by
  refine TCall.body Try.func5 rfl rfl ?_
  have hH : Holds H0 [] H0 := rfl
  refine WpC.seqR ?_
  refine WpOps.pn 1 rfl trivial ?_
  refine WpOps.nil ?_
  refine WpC.seqR ?_
  obtain ⟨r_1, hr_1, h⟩ := Sh.bind_some h
  refine WpOps.consE (v := (bA r_1)) rfl rfl (Exact.call rfl rfl rfl (w_emendlaw02_awake (hG.up hH) hr_1)) ?_
  refine WpOps.pn 1 rfl trivial ?_
  refine WpOps.nil ?_
  refine WpC.seq ?_
  refine WpC.seqR ?_
  refine WpOps.pn 3 rfl trivial ?_
  obtain ⟨b_1, g_1, h⟩ := Sh.bind_some h
  refine WpOps.cutB 5 15 (bA b_1) rfl ?_ ?_
  ·
    refine WpOps.pn 1 rfl trivial ?_
    refine WpOps.split 11 rfl (fun hb => ?_) (fun hb => ?_)
    ·
      replace g_1 := Sh.ite_pos hb g_1
      refine WpOps.pn 4 rfl trivial ?_
      refine WpOps.nil ?_
      obtain rfl := Sh.some_inj g_1
      exact ⟨rfl, rfl⟩
    ·
      replace g_1 := Sh.ite_neg hb g_1
      refine WpOps.pn 2 rfl trivial ?_
      refine WpOps.at 13 (len_map _ _) ?_
      refine WpOps.pn 2 rfl trivial ?_
      refine WpOps.nil ?_
      obtain rfl := Sh.some_inj g_1
      exact ⟨rfl, rfl⟩
  intro env
  refine WpOps.nil ?_
  refine WpC.condB rfl (fun hb => ?_) (fun hb => ?_)
  ·
    replace h := Sh.ite_pos hb h
    refine WpC.seqR ?_
    refine WpOps.pn 2 rfl trivial ?_
    refine WpOps.nil ?_
    obtain rfl := Sh.some_inj h
    refine WpC.ret ?_
    exact VEnds.ret1 rfl rfl ⟨rfl, hH⟩
  ·
    replace h := Sh.ite_neg hb h
    refine WpC.skipD ?_
    refine ⟨_, Heap.le_refl _, ?_⟩
    refine WpC.seqR ?_
    obtain ⟨r_2, hr_2, h⟩ := Sh.bind_some h
    refine WpOps.pn 2 rfl trivial ?_
    refine WpOps.consE (v := (sA r_2)) rfl rfl (Exact.call rfl rfl rfl (w_splice_Spread hr_2)) ?_
    refine WpOps.pn 1 rfl trivial ?_
    refine WpOps.nil ?_
    refine WpC.seqR ?_
    refine WpOps.pn 1 rfl trivial ?_
    obtain ⟨b_2, g_2, h⟩ := Sh.bind_some h
    refine WpOps.cutB 7 27 (bA b_2) rfl ?_ ?_
    ·
      refine WpOps.pn 1 rfl trivial ?_
      refine WpOps.split 21 rfl (fun hb => ?_) (fun hb => ?_)
      ·
        replace g_2 := Sh.ite_pos hb g_2
        obtain ⟨r_3, hr_3, g_2⟩ := Sh.bind_some g_2
        refine WpOps.pn 3 rfl trivial ?_
        refine WpOps.consE (v := (sA r_3)) rfl rfl (Exact.call rfl rfl rfl (w_emendref02_Spread hr_3)) ?_
        refine WpOps.pn 2 rfl trivial ?_
        refine WpOps.nil ?_
        obtain rfl := Sh.some_inj g_2
        exact ⟨rfl, rfl⟩
      ·
        replace g_2 := Sh.ite_neg hb g_2
        refine WpOps.pn 6 rfl trivial ?_
        refine WpOps.nil ?_
        obtain rfl := Sh.some_inj g_2
        exact ⟨rfl, rfl⟩
    intro env
    refine WpOps.pn 1 rfl trivial ?_
    refine WpOps.nil ?_
    obtain rfl := Sh.some_inj h
    refine WpC.ret ?_
    exact VEnds.ret1 rfl rfl ⟨rfl, hH⟩

theorem w_emendlaw02_SpliceBack {H0 : Heap} (hG : Glob H0) {s_1 : List UInt8} {places_1 : List Int} {r : Bool} (h : emendlaw02_SpliceBack s_1 places_1 = some r) : TCall Try.prog 6 [(sA s_1), (AV.rows 1 (List.map cI places_1))] H0 (fun v H' => v = (bA r) ∧ H' = H0) noE := by
  refine TCall.body Try.func6 rfl rfl ?_
  have hH : Holds H0 [] H0 := rfl
  refine WpC.seqR ?_
  refine WpOps.pn 1 rfl trivial ?_
  refine WpOps.nil ?_
  refine WpC.seqR ?_
  obtain ⟨r_1, hr_1, h⟩ := Sh.bind_some h
  refine WpOps.consE (v := (bA r_1)) rfl rfl (Exact.call rfl rfl rfl (w_emendlaw02_awake (hG.up hH) hr_1)) ?_
  refine WpOps.pn 1 rfl trivial ?_
  refine WpOps.nil ?_
  refine WpC.seq ?_
  refine WpC.seqR ?_
  refine WpOps.pn 3 rfl trivial ?_
  obtain ⟨b_1, g_1, h⟩ := Sh.bind_some h
  refine WpOps.cutB 5 18 (bA b_1) rfl ?_ ?_
  ·
    refine WpOps.pn 1 rfl trivial ?_
    refine WpOps.split 14 rfl (fun hb => ?_) (fun hb => ?_)
    ·
      replace g_1 := Sh.ite_pos hb g_1
      refine WpOps.pn 4 rfl trivial ?_
      refine WpOps.nil ?_
      obtain rfl := Sh.some_inj g_1
      exact ⟨rfl, rfl⟩
    ·
      replace g_1 := Sh.ite_neg hb g_1
      refine WpOps.pn 2 rfl trivial ?_
      refine WpOps.at 16 (len_map _ _) ?_
      refine WpOps.pn 2 rfl trivial ?_
      refine WpOps.nil ?_
      obtain rfl := Sh.some_inj g_1
      exact ⟨rfl, rfl⟩
  intro env
  refine WpOps.nil ?_
  refine WpC.condB rfl (fun hb => ?_) (fun hb => ?_)
  ·
    replace h := Sh.ite_pos hb h
    refine WpC.seqR ?_
    refine WpOps.pn 2 rfl trivial ?_
    refine WpOps.nil ?_
    obtain rfl := Sh.some_inj h
    refine WpC.ret ?_
    exact VEnds.ret1 rfl rfl ⟨rfl, hH⟩
  ·
    replace h := Sh.ite_neg hb h
    refine WpC.skipD ?_
    refine ⟨_, Heap.le_refl _, ?_⟩
    refine WpC.seq ?_
    refine WpC.seqR ?_
    refine WpOps.pn 1 rfl trivial ?_
    refine WpOps.nil ?_
    refine WpC.blockK (fun x : (Unit) × (Unit) => [(0, (sA s_1)), (1, (AV.rows 1 (List.map cI places_1))), (5, (bA r_1))]) (fun x H' => (emendlaw02_SpliceBack_j1 s_1 places_1 r_1) x.1 = some r ∧ Holds H0 [] H') ?_ ?_
    ·
      obtain ⟨o_1, ho_1, hk_1⟩ := Sh.bind_some h
      refine WpC.loopS (emendlaw02_SpliceBack_b2 s_1 r_1) (fun (s : Int) (a : Unit) => [(0, (sA s_1)), (1, (AV.rows 1 (List.map cI places_1))), (5, (bA r_1)), (6, (iA s))]) (fun (s : Int) (a : Unit) H' => Holds H0 [] H') o_1 (0 : Int) () ho_1 ⟨rfl, rfl, rfl, rfl, trivial⟩ hH ?_
      rintro i_1 _ st_1 env H' h hd_1 hH
      refine WpC.seq ?_
      refine WpC.seqR ?_
      refine WpOps.pn 4 rfl trivial ?_
      refine WpOps.nil ?_
      refine WpC.condB rfl (fun hb => ?_) (fun hb => ?_)
      ·
        replace h := Sh.ite_pos hb h
        refine WpC.skipD ?_
        refine ⟨_, Heap.le_refl _, ?_⟩
        refine WpC.seq ?_
        refine WpC.block ?_
        refine WpC.seqR ?_
        obtain ⟨ch_1, hch_1, h⟩ := Sh.bind_some h
        refine WpOps.pn 2 rfl trivial ?_
        refine WpOps.consE (v := (u8A ch_1)) rfl rfl (Exact.ixs hch_1 rfl rfl rfl rfl) ?_
        refine WpOps.pn 1 rfl trivial ?_
        refine WpOps.nil ?_
        refine WpC.condB rfl (fun hb => ?_) (fun hb => ?_)
        ·
          replace h := Sh.ite_pos hb h
          refine WpC.seqR ?_
          refine WpOps.pn 2 rfl trivial ?_
          refine WpOps.nil ?_
          obtain rfl := Sh.some_inj h
          have e := hd_1 _ rfl
          subst e
          have h := hk_1
          obtain rfl := Sh.some_inj h
          refine WpC.ret ?_
          exact VEnds.ret1 rfl rfl ⟨rfl, hH⟩
        ·
          replace h := Sh.ite_neg hb h
          refine WpC.skipD ?_
          refine ⟨_, Heap.le_refl _, ?_⟩
          refine WpC.regionD ?_
          obtain ⟨c_1, h⟩ := Sh.chk_some h
          refine WpOps.pn 3 rfl c_1 ?_
          refine WpOps.nil ?_
          obtain rfl := Sh.some_inj h
          exact ⟨_, (Heap.le_refl _), (i_1 + (1 : Int)), (), rfl, ⟨rfl, rfl, rfl, rfl, trivial⟩, hH⟩
      ·
        replace h := Sh.ite_neg hb h
        obtain rfl := Sh.some_inj h
        have e := hd_1 _ rfl
        subst e
        refine WpC.exit ?_
        exact ⟨((), ()), ⟨rfl, rfl, rfl, trivial⟩, hk_1, hH⟩
    ·
      rintro ⟨_, _⟩ env H' ⟨h, hH⟩
      refine ⟨_, Heap.le_refl _, ?_⟩
      refine WpC.seqR ?_
      obtain ⟨r_2, hr_2, h⟩ := Sh.bind_some h
      refine WpOps.pn 2 rfl trivial ?_
      refine WpOps.consE (v := (sA r_2)) rfl rfl (Exact.call rfl rfl rfl (w_splice_Spread hr_2)) ?_
      refine WpOps.pn 1 rfl trivial ?_
      refine WpOps.nil ?_
      refine WpC.seqR ?_
      obtain ⟨r_3, hr_3, h⟩ := Sh.bind_some h
      refine WpOps.pn 1 rfl trivial ?_
      refine WpOps.consE (v := (AV.rows 2 (List.map cGChar r_3))) rfl rfl (Exact.call rfl rfl rfl (w_splice_Join hr_3)) ?_
      obtain ⟨r_4, hr_4, h⟩ := Sh.bind_some h
      refine WpOps.consE (v := (sA r_4)) rfl rfl (Exact.call rfl rfl rfl (w_splice_Text hr_4)) ?_
      refine WpOps.pn 1 rfl trivial ?_
      refine WpOps.nil ?_
      refine WpC.seqR ?_
      obtain ⟨r_5, hr_5, h⟩ := Sh.bind_some h
      refine WpOps.pn 1 rfl trivial ?_
      refine WpOps.consE (v := (iA r_5)) rfl rfl (Exact.call rfl rfl rfl (w_splice_Pairs (hG.up hH) hr_5)) ?_
      refine WpOps.pn 1 rfl trivial ?_
      refine WpOps.nil ?_
      refine WpC.seqR ?_
      refine WpOps.pn 1 rfl trivial ?_
      obtain ⟨b_2, g_2, h⟩ := Sh.bind_some h
      refine WpOps.cutB 5 44 (bA b_2) rfl ?_ ?_
      ·
        refine WpOps.pn 1 rfl trivial ?_
        refine WpOps.split 40 rfl (fun hb => ?_) (fun hb => ?_)
        ·
          replace g_2 := Sh.ite_pos hb g_2
          refine WpOps.pn 4 rfl trivial ?_
          refine WpOps.nil ?_
          obtain rfl := Sh.some_inj g_2
          exact ⟨rfl, rfl⟩
        ·
          replace g_2 := Sh.ite_neg hb g_2
          refine WpOps.pn 4 rfl trivial ?_
          refine WpOps.nil ?_
          obtain rfl := Sh.some_inj g_2
          exact ⟨rfl, rfl⟩
      intro env
      obtain ⟨b_3, g_3, h⟩ := Sh.bind_some h
      refine WpOps.cutB 10 54 (bA b_3) rfl ?_ ?_
      ·
        refine WpOps.pn 1 rfl trivial ?_
        refine WpOps.split 45 rfl (fun hb => ?_) (fun hb => ?_)
        ·
          replace g_3 := Sh.ite_pos hb g_3
          obtain ⟨c_2, g_3⟩ := Sh.chk_some g_3
          obtain ⟨c_3, g_3⟩ := Sh.chk_some g_3
          refine WpOps.pn 9 rfl ⟨c_3, c_2⟩ ?_
          refine WpOps.nil ?_
          obtain rfl := Sh.some_inj g_3
          exact ⟨rfl, rfl⟩
        ·
          replace g_3 := Sh.ite_neg hb g_3
          refine WpOps.pn 9 rfl trivial ?_
          refine WpOps.nil ?_
          obtain rfl := Sh.some_inj g_3
          exact ⟨rfl, rfl⟩
      intro env
      refine WpOps.pn 1 rfl trivial ?_
      refine WpOps.nil ?_
      obtain rfl := Sh.some_inj h
      refine WpC.ret ?_
      exact VEnds.ret1 rfl rfl ⟨rfl, hH⟩

theorem w_emendlaw02_SpliceWhere {H0 : Heap} (hG : Glob H0) {text_1 : List UInt8} {from_1 : Int} {to_1 : Int} {r : Bool} (h : emendlaw02_SpliceWhere text_1 from_1 to_1 = some r) : TCall Try.prog 7 [(sA text_1), (iA from_1), (iA to_1)] H0 (fun v H' => v = (bA r) ∧ H' = H0) noE := by
  refine TCall.body Try.func7 rfl rfl ?_
  have hH : Holds H0 [] H0 := rfl
  refine WpC.seqR ?_
  refine WpOps.pn 1 rfl trivial ?_
  refine WpOps.nil ?_
  refine WpC.seqR ?_
  obtain ⟨r_1, hr_1, h⟩ := Sh.bind_some h
  refine WpOps.consE (v := (bA r_1)) rfl rfl (Exact.call rfl rfl rfl (w_emendlaw02_awake (hG.up hH) hr_1)) ?_
  refine WpOps.pn 1 rfl trivial ?_
  refine WpOps.nil ?_
  refine WpC.seq ?_
  refine WpC.seqR ?_
  refine WpOps.pn 3 rfl trivial ?_
  refine WpOps.nil ?_
  refine WpC.condB rfl (fun hb => ?_) (fun hb => ?_)
  ·
    replace h := Sh.ite_pos hb h
    refine WpC.seqR ?_
    refine WpOps.pn 2 rfl trivial ?_
    refine WpOps.nil ?_
    obtain rfl := Sh.some_inj h
    refine WpC.ret ?_
    exact VEnds.ret1 rfl rfl ⟨rfl, hH⟩
  ·
    replace h := Sh.ite_neg hb h
    refine WpC.skipD ?_
    refine ⟨_, Heap.le_refl _, ?_⟩
    refine WpC.seqR ?_
    obtain ⟨r_2, hr_2, h⟩ := Sh.bind_some h
    refine WpOps.pn 1 rfl trivial ?_
    refine WpOps.consE (v := (AV.rows 2 (List.map cGChar r_2))) rfl rfl (Exact.call rfl rfl rfl (w_splice_Join hr_2)) ?_
    refine WpOps.pn 1 rfl trivial ?_
    refine WpOps.nil ?_
    refine WpC.seqR ?_
    refine WpOps.pn 1 rfl trivial ?_
    refine WpOps.nil ?_
    refine WpC.seq ?_
    refine WpC.seqR ?_
    refine WpOps.pn 1 rfl trivial ?_
    refine WpOps.nil ?_
    refine WpC.blockK (fun x : (Unit) × (Unit) => [(0, (sA text_1)), (1, (iA from_1)), (2, (iA to_1)), (7, (bA r_1)), (8, (AV.rows 2 (List.map cGChar r_2)))]) (fun x H' => (emendlaw02_SpliceWhere_j1 text_1 from_1 to_1 r_1 r_2) x.1 = some r ∧ Holds H0 [] H') ?_ ?_
    ·
      obtain ⟨o_1, ho_1, hk_1⟩ := Sh.bind_some h
      refine WpC.loopS (emendlaw02_SpliceWhere_b2 text_1 r_2) (fun (s : Int × Int) (a : Unit) => [(0, (sA text_1)), (1, (iA from_1)), (2, (iA to_1)), (7, (bA r_1)), (8, (AV.rows 2 (List.map cGChar r_2))), (9, (iA s.1)), (10, (iA s.2))]) (fun (s : Int × Int) (a : Unit) H' => Holds H0 [] H') o_1 ((-1 : Int), (0 : Int)) () ho_1 ⟨rfl, rfl, rfl, rfl, rfl, rfl, rfl, trivial⟩ hH ?_
      rintro ⟨last_1, i_1⟩ _ st_1 env H' h hd_1 hH
      refine WpC.seq ?_
      refine WpC.seqR ?_
      refine WpOps.pn 3 rfl trivial ?_
      refine WpOps.at 25 (len_map _ _) ?_
      refine WpOps.pn 1 rfl trivial ?_
      refine WpOps.nil ?_
      refine WpC.condB rfl (fun hb => ?_) (fun hb => ?_)
      ·
        replace h := Sh.ite_pos hb h
        refine WpC.skipD ?_
        refine ⟨_, Heap.le_refl _, ?_⟩
        refine WpC.seq ?_
        refine WpC.block ?_
        refine WpC.seqR ?_
        obtain ⟨y_1, hy_1, h⟩ := Sh.bind_some h
        refine WpOps.pn 2 rfl trivial ?_
        refine WpOps.consE (v := (.rop (cGChar y_1))) rfl rfl (Exact.ixr cGChar hy_1 rfl rfl rfl rfl (by kernel_rfl) (by decide)) ?_
        refine WpOps.pn 1 rfl trivial ?_
        refine WpOps.consE (v := (iA y_1.at_)) rfl rfl (Exact.load_rop rfl rfl rfl) ?_
        refine WpOps.pn 1 rfl trivial ?_
        refine WpOps.nil ?_
        refine WpC.seq ?_
        refine WpC.seqD [] [0, 1, 2, 3, 4, 5, 6, 7, 8, 9, 10, 11, 12, 13, 14, 15, 16, 17, 18, 19] (by kernel_rfl) (by kernel_rfl) ?_
        refine WpPi.pn 3 rfl trivial ?_
        obtain ⟨b_1, g_1, h⟩ := Sh.bind_some h
        refine WpPi.cutB 6 42 (bA b_1) rfl ?_ ?_
        ·
          refine WpPi.pn 1 rfl trivial ?_
          refine WpPi.split 37 rfl (fun hb => ?_) (fun hb => ?_)
          ·
            replace g_1 := Sh.ite_pos hb g_1
            refine WpPi.pn 5 rfl trivial ?_
            refine WpPi.nil ?_
            obtain rfl := Sh.some_inj g_1
            exact ⟨rfl, rfl⟩
          ·
            replace g_1 := Sh.ite_neg hb g_1
            refine WpPi.pn 5 rfl trivial ?_
            refine WpPi.nil ?_
            obtain rfl := Sh.some_inj g_1
            exact ⟨rfl, rfl⟩
        intro env
        obtain ⟨b_2, g_2, h⟩ := Sh.bind_some h
        refine WpPi.cutB 11 53 (bA b_2) rfl ?_ ?_
        ·
          refine WpPi.pn 1 rfl trivial ?_
          refine WpPi.split 43 rfl (fun hb => ?_) (fun hb => ?_)
          ·
            replace g_2 := Sh.ite_pos hb g_2
            refine WpPi.pn 10 rfl trivial ?_
            refine WpPi.nil ?_
            obtain rfl := Sh.some_inj g_2
            exact ⟨rfl, rfl⟩
          ·
            replace g_2 := Sh.ite_neg hb g_2
            obtain ⟨ch_1, hch_1, g_2⟩ := Sh.bind_some g_2
            refine WpPi.pn 2 rfl trivial ?_
            refine WpPi.consI (v := (u8A ch_1)) rfl rfl rfl rfl (fun _ => Exact.ixs hch_1 rfl rfl rfl rfl) ?_
            obtain ⟨y_2, hy_2, g_2⟩ := Sh.bind_some g_2
            refine WpPi.pn 2 rfl trivial ?_
            refine WpPi.consI (v := (.rop (cGChar y_2))) rfl rfl rfl rfl (fun _ => Exact.ixr cGChar hy_2 rfl rfl rfl rfl (by kernel_rfl) (by decide)) ?_
            refine WpPi.pn 1 rfl trivial ?_
            refine WpPi.consI (v := (u8A y_2.b)) rfl rfl rfl rfl (fun _ => Exact.load_rop rfl rfl rfl) ?_
            refine WpPi.pn 2 rfl trivial ?_
            refine WpPi.nil ?_
            obtain rfl := Sh.some_inj g_2
            exact ⟨rfl, rfl⟩
        intro env
        refine WpPi.nil ?_
        refine WpC.condB rfl (fun hb => ?_) (fun hb => ?_)
        ·
          replace h := Sh.ite_pos hb h
          refine WpC.seqR ?_
          refine WpOps.pn 1 rfl trivial ?_
          refine WpOps.nil ?_
          obtain rfl := Sh.some_inj h
          have e := hd_1 _ rfl
          subst e
          have h := hk_1
          obtain rfl := Sh.some_inj h
          refine WpC.ret ?_
          exact VEnds.ret1 rfl rfl ⟨rfl, hH⟩
        ·
          replace h := Sh.ite_neg hb h
          refine WpC.skipD ?_
          refine ⟨_, Heap.le_refl _, ?_⟩
          refine WpC.regionD ?_
          refine WpOps.pn 2 rfl trivial ?_
          refine WpOps.nil ?_
          refine ⟨_, Heap.le_refl _, ?_⟩
          refine WpC.regionD ?_
          obtain ⟨c_1, h⟩ := Sh.chk_some h
          refine WpOps.pn 3 rfl c_1 ?_
          refine WpOps.nil ?_
          obtain rfl := Sh.some_inj h
          exact ⟨_, (Heap.le_refl _), (y_1.at_, (i_1 + (1 : Int))), (), rfl, ⟨rfl, rfl, rfl, rfl, rfl, rfl, rfl, trivial⟩, hH⟩
      ·
        replace h := Sh.ite_neg hb h
        obtain rfl := Sh.some_inj h
        have e := hd_1 _ rfl
        subst e
        refine WpC.exit ?_
        exact ⟨((), ()), ⟨rfl, rfl, rfl, rfl, rfl, trivial⟩, hk_1, hH⟩
    ·
      rintro ⟨_, _⟩ env H' ⟨h, hH⟩
      refine ⟨_, Heap.le_refl _, ?_⟩
      refine WpC.seqR ?_
      obtain ⟨r_3, hr_3, h⟩ := Sh.bind_some h
      refine WpOps.pn 3 rfl trivial ?_
      refine WpOps.consE (v := (.tup [(iA r_3.1), (iA r_3.2.1), (iA r_3.2.2)])) rfl rfl (Exact.call rfl rfl rfl (w_splice_Span hr_3)) ?_
      refine WpOps.pn 7 rfl trivial ?_
      refine WpOps.nil ?_
      refine WpC.seq ?_
      refine WpC.seqR ?_
      refine WpOps.pn 2 rfl trivial ?_
      obtain ⟨b_3, g_3, h⟩ := Sh.bind_some h
      refine WpOps.cutB 5 69 (bA b_3) rfl ?_ ?_
      ·
        refine WpOps.pn 1 rfl trivial ?_
        refine WpOps.split 65 rfl (fun hb => ?_) (fun hb => ?_)
        ·
          replace g_3 := Sh.ite_pos hb g_3
          refine WpOps.pn 4 rfl trivial ?_
          refine WpOps.nil ?_
          obtain rfl := Sh.some_inj g_3
          exact ⟨rfl, rfl⟩
        ·
          replace g_3 := Sh.ite_neg hb g_3
          refine WpOps.pn 4 rfl trivial ?_
          refine WpOps.nil ?_
          obtain rfl := Sh.some_inj g_3
          exact ⟨rfl, rfl⟩
      intro env
      refine WpOps.nil ?_
      refine WpC.condB rfl (fun hb => ?_) (fun hb => ?_)
      ·
        replace h := Sh.ite_pos hb h
        refine WpC.seqR ?_
        refine WpOps.pn 2 rfl trivial ?_
        refine WpOps.nil ?_
        obtain rfl := Sh.some_inj h
        refine WpC.ret ?_
        exact VEnds.ret1 rfl rfl ⟨rfl, hH⟩
      ·
        replace h := Sh.ite_neg hb h
        refine WpC.skipD ?_
        refine ⟨_, Heap.le_refl _, ?_⟩
        refine WpC.seq ?_
        refine WpC.seqR ?_
        refine WpOps.pn 2 rfl trivial ?_
        obtain ⟨b_4, g_4, h⟩ := Sh.bind_some h
        refine WpOps.cutB 5 77 (bA b_4) rfl ?_ ?_
        ·
          refine WpOps.pn 1 rfl trivial ?_
          refine WpOps.split 73 rfl (fun hb => ?_) (fun hb => ?_)
          ·
            replace g_4 := Sh.ite_pos hb g_4
            refine WpOps.pn 4 rfl trivial ?_
            refine WpOps.nil ?_
            obtain rfl := Sh.some_inj g_4
            exact ⟨rfl, rfl⟩
          ·
            replace g_4 := Sh.ite_neg hb g_4
            refine WpOps.pn 4 rfl trivial ?_
            refine WpOps.nil ?_
            obtain rfl := Sh.some_inj g_4
            exact ⟨rfl, rfl⟩
        intro env
        obtain ⟨b_5, g_5, h⟩ := Sh.bind_some h
        refine WpOps.cutB 6 83 (bA b_5) rfl ?_ ?_
        ·
          refine WpOps.pn 1 rfl trivial ?_
          refine WpOps.split 78 rfl (fun hb => ?_) (fun hb => ?_)
          ·
            replace g_5 := Sh.ite_pos hb g_5
            refine WpOps.pn 5 rfl trivial ?_
            refine WpOps.nil ?_
            obtain rfl := Sh.some_inj g_5
            exact ⟨rfl, rfl⟩
          ·
            replace g_5 := Sh.ite_neg hb g_5
            refine WpOps.pn 5 rfl trivial ?_
            refine WpOps.nil ?_
            obtain rfl := Sh.some_inj g_5
            exact ⟨rfl, rfl⟩
        intro env
        obtain ⟨b_6, g_6, h⟩ := Sh.bind_some h
        refine WpOps.cutB 4 87 (bA b_6) rfl ?_ ?_
        ·
          refine WpOps.pn 1 rfl trivial ?_
          refine WpOps.split 84 rfl (fun hb => ?_) (fun hb => ?_)
          ·
            replace g_6 := Sh.ite_pos hb g_6
            refine WpOps.pn 3 rfl trivial ?_
            refine WpOps.nil ?_
            obtain rfl := Sh.some_inj g_6
            exact ⟨rfl, rfl⟩
          ·
            replace g_6 := Sh.ite_neg hb g_6
            refine WpOps.pn 3 rfl trivial ?_
            refine WpOps.nil ?_
            obtain rfl := Sh.some_inj g_6
            exact ⟨rfl, rfl⟩
        intro env
        obtain ⟨b_7, g_7, h⟩ := Sh.bind_some h
        refine WpOps.cutB 5 92 (bA b_7) rfl ?_ ?_
        ·
          refine WpOps.pn 1 rfl trivial ?_
          refine WpOps.split 88 rfl (fun hb => ?_) (fun hb => ?_)
          ·
            replace g_7 := Sh.ite_pos hb g_7
            refine WpOps.pn 4 rfl trivial ?_
            refine WpOps.nil ?_
            obtain rfl := Sh.some_inj g_7
            exact ⟨rfl, rfl⟩
          ·
            replace g_7 := Sh.ite_neg hb g_7
            refine WpOps.pn 4 rfl trivial ?_
            refine WpOps.nil ?_
            obtain rfl := Sh.some_inj g_7
            exact ⟨rfl, rfl⟩
        intro env
        obtain ⟨b_8, g_8, h⟩ := Sh.bind_some h
        refine WpOps.cutB 6 98 (bA b_8) rfl ?_ ?_
        ·
          refine WpOps.pn 1 rfl trivial ?_
          refine WpOps.split 93 rfl (fun hb => ?_) (fun hb => ?_)
          ·
            replace g_8 := Sh.ite_pos hb g_8
            refine WpOps.pn 5 rfl trivial ?_
            refine WpOps.nil ?_
            obtain rfl := Sh.some_inj g_8
            exact ⟨rfl, rfl⟩
          ·
            replace g_8 := Sh.ite_neg hb g_8
            refine WpOps.pn 3 rfl trivial ?_
            refine WpOps.at 96 (len_map _ _) ?_
            refine WpOps.pn 2 rfl trivial ?_
            refine WpOps.nil ?_
            obtain rfl := Sh.some_inj g_8
            exact ⟨rfl, rfl⟩
        intro env
        refine WpOps.nil ?_
        refine WpC.condB rfl (fun hb => ?_) (fun hb => ?_)
        ·
          replace h := Sh.ite_pos hb h
          refine WpC.seqR ?_
          refine WpOps.pn 1 rfl trivial ?_
          refine WpOps.nil ?_
          obtain rfl := Sh.some_inj h
          refine WpC.ret ?_
          exact VEnds.ret1 rfl rfl ⟨rfl, hH⟩
        ·
          replace h := Sh.ite_neg hb h
          refine WpC.skipD ?_
          refine ⟨_, Heap.le_refl _, ?_⟩
          refine WpC.seqR ?_
          obtain ⟨c_2, h⟩ := Sh.chk_some h
          refine WpOps.pn 3 rfl trivial ?_
          refine WpOps.pn 1 rfl (show 0 ≤ r_3.1 ∧ 0 ≤ r_3.2.1 ∧ ((r_3.1).toNat ≤ (r_3.2.1).toNat ∧ (r_3.2.1).toNat ≤ text_1.length) from ⟨(by omega), (by omega), (by omega)⟩) ?_
          obtain ⟨r_4, hr_4, h⟩ := Sh.bind_some h
          refine WpOps.consE (v := (AV.rows 2 (List.map cGChar r_4))) rfl rfl (Exact.call rfl rfl rfl (w_splice_Join hr_4)) ?_
          obtain ⟨r_5, hr_5, h⟩ := Sh.bind_some h
          refine WpOps.consE (v := (sA r_5)) rfl rfl (Exact.call rfl rfl rfl (w_splice_Text hr_5)) ?_
          refine WpOps.pn 1 rfl trivial ?_
          refine WpOps.nil ?_
          refine WpC.seqR ?_
          refine WpOps.pn 1 rfl trivial ?_
          obtain ⟨b_9, g_9, h⟩ := Sh.bind_some h
          refine WpOps.cutB 9 114 (bA b_9) rfl ?_ ?_
          ·
            refine WpOps.pn 1 rfl trivial ?_
            refine WpOps.split 106 rfl (fun hb => ?_) (fun hb => ?_)
            ·
              replace g_9 := Sh.ite_pos hb g_9
              obtain ⟨c_3, g_9⟩ := Sh.chk_some g_9
              refine WpOps.pn 4 rfl trivial ?_
              refine WpOps.pn 1 rfl (show 0 ≤ from_1 ∧ 0 ≤ to_1 ∧ True ∧ ((from_1).toNat ≤ (to_1).toNat ∧ (to_1).toNat ≤ (List.map cGChar r_2).length) ∧ True from ⟨(by omega), (by omega), trivial, (by simp only [List.length_map]; omega), trivial⟩) ?_
              refine WpOps.at 111 (rows_cut 2 cGChar r_2 _ _) ?_
              obtain ⟨r_6, hr_6, g_9⟩ := Sh.bind_some g_9
              refine WpOps.consE (v := (sA r_6)) rfl rfl (Exact.call rfl rfl rfl (w_splice_Text hr_6)) ?_
              refine WpOps.pn 2 rfl trivial ?_
              refine WpOps.nil ?_
              obtain rfl := Sh.some_inj g_9
              exact ⟨rfl, rfl⟩
            ·
              replace g_9 := Sh.ite_neg hb g_9
              refine WpOps.pn 8 rfl trivial ?_
              refine WpOps.nil ?_
              obtain rfl := Sh.some_inj g_9
              exact ⟨rfl, rfl⟩
          intro env
          refine WpOps.pn 1 rfl trivial ?_
          refine WpOps.nil ?_
          obtain rfl := Sh.some_inj h
          refine WpC.ret ?_
          exact VEnds.ret1 rfl rfl ⟨rfl, hH⟩

end Go.Proofs.Ytogbccggnjidpaa
