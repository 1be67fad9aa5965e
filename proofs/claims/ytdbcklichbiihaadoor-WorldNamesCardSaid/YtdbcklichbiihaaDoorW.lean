/-
  The code computes what the plain functions say. Printed by a tool.
-/
import Derived.Test.YtdbcklichbiihaaDoorT
import Derived.Test.YtdbcklichbiihaaDoorPe
import Derived.Test.YtdbcklichbiihaaDoorChecked
import Derived.Test.YtdbcklichbiihaaDoorLi
import Derived.Test.YtdbcklichbiihaaDoorCh
import Derived.Test.YtdbcklichbiihaaDoorPi
import Derived.Test.YtdbcklichbiihaaDoorTv
set_option linter.unusedVariables false
set_option linter.unusedSimpArgs false
set_option maxRecDepth 20000
set_option maxHeartbeats 8000000
namespace Go.Proofs.YtdbcklichbiihaaDoor
open Go Go.Vc Go.Sh
attribute [local irreducible] WpC WpOps WpPi WpO Exact TCall VEnds Sh.loopS
theorem ek22 : ElemOk Tryd.prog 22 9 1 16 := ElemOk.of (by kernel_rfl)
theorem ek45 : ElemOk Tryd.prog 45 56 6 56 := ElemOk.of (by kernel_rfl)
theorem ek53 : ElemOk Tryd.prog 53 47 4 48 := ElemOk.of (by kernel_rfl)
theorem ek65 : ElemOk Tryd.prog 65 74 2 16 := ElemOk.of (by kernel_rfl)
theorem w_world_Defs {H0 : Heap} {names_1 : List (List UInt8)} {set_1 : Int} {r : List (List UInt8) × Int} (h : world_Defs names_1 set_1 = some r) : TCall Tryd.prog 9 [(AV.rows 1 (List.map cS names_1)), (iA set_1)] H0 (fun v H' => v = (.tup [(AV.rows 1 (List.map cS r.1)), (iA r.2)]) ∧ H' = H0) noE := by
  refine id (TCall.body Tryd.func9 rfl rfl ?_)
  have hH : Holds H0 [] H0 := rfl
  refine WpC.seqR ?_
  refine WpOps.pn 2 rfl trivial ?_
  refine WpOps.nil ?_
  refine WpC.seq ?_
  refine WpC.seqR ?_
  refine WpOps.pn 2 rfl trivial ?_
  refine WpOps.at 10 (len_map _ _) ?_
  refine WpOps.pn 1 rfl trivial ?_
  obtain ⟨b_1, g_1, h⟩ := Sh.bind_some h
  refine WpOps.cutB 4 15 (bA b_1) rfl ?_ ?_
  ·
    refine WpOps.pn 1 rfl trivial ?_
    refine WpOps.split 12 rfl (fun hb => ?_) (fun hb => ?_)
    ·
      replace g_1 := Sh.ite_pos hb g_1
      refine WpOps.pn 3 rfl trivial ?_
      refine WpOps.nil ?_
      obtain rfl := Sh.some_inj g_1
      exact ⟨rfl, rfl⟩
    ·
      replace g_1 := Sh.ite_neg hb g_1
      refine WpOps.pn 3 rfl trivial ?_
      refine WpOps.nil ?_
      obtain rfl := Sh.some_inj g_1
      exact ⟨rfl, rfl⟩
  intro env
  obtain ⟨b_2, g_2, h⟩ := Sh.bind_some h
  refine WpOps.cutB 7 22 (bA b_2) rfl ?_ ?_
  ·
    refine WpOps.pn 1 rfl trivial ?_
    refine WpOps.split 16 rfl (fun hb => ?_) (fun hb => ?_)
    ·
      replace g_2 := Sh.ite_pos hb g_2
      refine WpOps.pn 6 rfl trivial ?_
      refine WpOps.nil ?_
      obtain rfl := Sh.some_inj g_2
      exact ⟨rfl, rfl⟩
    ·
      replace g_2 := Sh.ite_neg hb g_2
      refine WpOps.pn 3 rfl trivial ?_
      refine WpOps.at 19 (len_map _ _) ?_
      obtain ⟨c_1, g_2⟩ := Sh.chk_some g_2
      refine WpOps.pn 3 rfl c_1 ?_
      refine WpOps.nil ?_
      obtain rfl := Sh.some_inj g_2
      exact ⟨rfl, rfl⟩
  intro env
  refine WpOps.nil ?_
  refine WpC.condB rfl (fun hb => ?_) (fun hb => ?_)
  ·
    replace h := Sh.ite_pos hb h
    refine WpC.seqR ?_
    refine WpOps.pn 2 rfl trivial ?_
    refine WpOps.nil ?_
    refine WpC.sub (t := 4) (Sub.nil 1) ?_
    obtain rfl := Sh.some_inj h
    refine WpC.ret ?_
    exact VEnds.ret2 rfl rfl rfl ⟨rfl, hH⟩
  ·
    replace h := Sh.ite_neg hb h
    refine WpC.skipD ?_
    refine ⟨_, Heap.le_refl _, ?_⟩
    refine WpC.seqR ?_
    refine WpOps.pn 1 rfl trivial ?_
    have hH := hH.nil 9 1
    refine WpOps.nil ?_
    refine WpC.seq ?_
    refine WpC.seqR ?_
    refine WpOps.pn 2 rfl trivial ?_
    refine WpOps.at 24 (len_map _ _) ?_
    refine WpOps.pn 1 rfl trivial ?_
    refine WpOps.nil ?_
    refine WpC.blockK (fun x : (List (List UInt8)) × ((Option (Nat × Nat))) => [(6, (.own (List.map cS x.1).length x.2))]) (fun x H' => world_Defs_j1 x.1 = some r ∧ Holds H0 [.own 9 1 x.2 (List.map cS x.1)] H') ?_ ?_
    ·
      obtain ⟨o_1, ho_1, hk_1⟩ := Sh.bind_some h
      refine WpC.loopS (world_Defs_b2 names_1 set_1) (fun (s : Int × List (List UInt8)) (a : (Option (Nat × Nat))) => [(1, (iA set_1)), (6, (.own (List.map cS s.2).length a)), (23, (AV.rows 1 (List.map cS names_1))), (24, (iA (names_1.length : Int))), (25, (iA s.1))]) (fun (s : Int × List (List UInt8)) (a : (Option (Nat × Nat))) H' => Holds H0 [.own 9 1 a (List.map cS s.2)] H') o_1 ((0 : Int), ([] : List (List UInt8))) none ho_1 ⟨rfl, rfl, rfl, rfl, rfl, trivial⟩ hH ?_
      rintro ⟨t25_1, out_1⟩ p_1 st_1 env H' h hd_1 hH
      refine WpC.seqR ?_
      refine WpOps.pn 1 rfl trivial ?_
      refine WpOps.nil ?_
      refine WpC.seq ?_
      refine WpC.condB rfl (fun hb => ?_) (fun hb => ?_)
      ·
        replace h := Sh.ite_pos hb h
        refine WpC.skipD ?_
        refine ⟨_, Heap.le_refl _, ?_⟩
        refine WpC.seq ?_
        refine WpC.block ?_
        refine WpC.seqR ?_
        obtain ⟨y_1, hy_1, h⟩ := Sh.bind_some h
        refine WpOps.pn 1 rfl trivial ?_
        refine WpOps.consE (v := (.rop (cS y_1))) rfl rfl (Exact.ixr cS hy_1 rfl rfl rfl rfl (by kernel_rfl) (by decide)) ?_
        refine WpOps.consE (v := (sA y_1)) rfl rfl (Exact.load_rop rfl rfl rfl) ?_
        refine WpOps.pn 2 rfl trivial ?_
        refine WpOps.nil ?_
        refine WpC.seqR ?_
        obtain ⟨c_2, h⟩ := Sh.chk_some h
        refine WpOps.pn 5 rfl c_2 ?_
        refine WpOps.nil ?_
        refine WpC.condB rfl (fun hb => ?_) (fun hb => ?_)
        ·
          replace h := Sh.ite_pos hb h
          refine WpC.regionD ?_
          refine WpOps.pn 2 rfl trivial ?_
          refine WpOps.consE (v := (AV.rows 1 (List.map cS ([y_1] : List (List UInt8))))) rfl rfl (Exact.litSlice rfl (by kernel_rfl)) ?_
          obtain ⟨c_3, h⟩ := Sh.chk_some h
          refine WpOps.consG rfl rfl (WpO.pushT cS out_1 ([y_1] : List (List UInt8)) (i := 0) rfl ek22 hH rfl rfl rfl (.rows _) (fun y _ => one_cS y) (by simp) c_3 (by decide) fun p_2 H' hH => ?_)
          refine WpOps.pn 1 rfl trivial ?_
          refine WpOps.nil ?_
          refine ⟨_, Heap.le_refl _, ?_⟩
          refine WpC.regionD ?_
          obtain ⟨c_4, h⟩ := Sh.chk_some h
          refine WpOps.pn 2 rfl c_4 ?_
          refine WpOps.nil ?_
          obtain rfl := Sh.some_inj h
          exact ⟨_, (Heap.le_refl _), ((t25_1 + (1 : Int)), (out_1 ++ ([y_1] : List (List UInt8)))), p_2, rfl, ⟨rfl, rfl, rfl, rfl, rfl, trivial⟩, hH⟩
        ·
          replace h := Sh.ite_neg hb h
          refine WpC.skipD ?_
          refine ⟨_, Heap.le_refl _, ?_⟩
          refine WpC.regionD ?_
          obtain ⟨c_5, h⟩ := Sh.chk_some h
          refine WpOps.pn 2 rfl c_5 ?_
          refine WpOps.nil ?_
          obtain rfl := Sh.some_inj h
          exact ⟨_, (Heap.le_refl _), ((t25_1 + (1 : Int)), out_1), p_1, rfl, ⟨rfl, rfl, rfl, rfl, rfl, trivial⟩, hH⟩
      ·
        replace h := Sh.ite_neg hb h
        obtain rfl := Sh.some_inj h
        have e := hd_1 _ rfl
        subst e
        refine WpC.exit ?_
        exact ⟨(out_1, p_1), ⟨rfl, trivial⟩, hk_1, hH⟩
    ·
      rintro ⟨out_2, p_3⟩ env H' ⟨h, hH⟩
      try dsimp only at h
      refine ⟨_, Heap.le_refl _, ?_⟩
      refine WpC.seqR ?_
      refine WpOps.pn 3 rfl trivial ?_
      refine WpOps.nil ?_
      refine WpC.freeze (t := 4) (i := 0) hH rfl rfl (fun H' hH => ?_)
      obtain rfl := Sh.some_inj h
      refine WpC.ret ?_
      exact VEnds.ret2 rfl rfl rfl ⟨rfl, hH⟩

theorem w_emendref11_Defs {H0 : Heap} {names_1 : List (List UInt8)} {set_1 : Int} {r : List (List UInt8) × Int} (h : emendref11_Defs names_1 set_1 = some r) : TCall Tryd.prog 10 [(AV.rows 1 (List.map cS names_1)), (iA set_1)] H0 (fun v H' => v = (.tup [(AV.rows 1 (List.map cS r.1)), (iA r.2)]) ∧ H' = H0) noE := by
  refine id (TCall.body Tryd.func10 rfl rfl ?_)
  have hH : Holds H0 [] H0 := rfl
  refine WpC.seqR ?_
  refine WpOps.pn 2 rfl trivial ?_
  refine WpOps.nil ?_
  refine WpC.seq ?_
  refine WpC.seqR ?_
  refine WpOps.pn 2 rfl trivial ?_
  refine WpOps.at 9 (len_map _ _) ?_
  refine WpOps.pn 1 rfl trivial ?_
  obtain ⟨b_1, g_1, h⟩ := Sh.bind_some h
  refine WpOps.cutB 4 14 (bA b_1) rfl ?_ ?_
  ·
    refine WpOps.pn 1 rfl trivial ?_
    refine WpOps.split 11 rfl (fun hb => ?_) (fun hb => ?_)
    ·
      replace g_1 := Sh.ite_pos hb g_1
      refine WpOps.pn 3 rfl trivial ?_
      refine WpOps.nil ?_
      obtain rfl := Sh.some_inj g_1
      exact ⟨rfl, rfl⟩
    ·
      replace g_1 := Sh.ite_neg hb g_1
      refine WpOps.pn 3 rfl trivial ?_
      refine WpOps.nil ?_
      obtain rfl := Sh.some_inj g_1
      exact ⟨rfl, rfl⟩
  intro env
  refine WpOps.nil ?_
  refine WpC.condB rfl (fun hb => ?_) (fun hb => ?_)
  ·
    replace h := Sh.ite_pos hb h
    refine WpC.seqR ?_
    refine WpOps.pn 2 rfl trivial ?_
    refine WpOps.nil ?_
    refine WpC.sub (t := 4) (Sub.nil 1) ?_
    obtain rfl := Sh.some_inj h
    refine WpC.ret ?_
    exact VEnds.ret2 rfl rfl rfl ⟨rfl, hH⟩
  ·
    replace h := Sh.ite_neg hb h
    refine WpC.skipD ?_
    refine ⟨_, Heap.le_refl _, ?_⟩
    refine WpC.seqR ?_
    refine WpOps.pn 1 rfl trivial ?_
    have hH := hH.nil 9 1
    refine WpOps.nil ?_
    refine WpC.seq ?_
    refine WpC.seqR ?_
    refine WpOps.pn 1 rfl trivial ?_
    refine WpOps.nil ?_
    refine WpC.blockK (fun x : (Int × List (List UInt8)) × ((Option (Nat × Nat))) => [(1, (iA x.1.1)), (6, (.own (List.map cS x.1.2).length x.2))]) (fun x H' => emendref11_Defs_j1 x.1 = some r ∧ Holds H0 [.own 9 1 x.2 (List.map cS x.1.2)] H') ?_ ?_
    ·
      obtain ⟨o_1, ho_1, hk_1⟩ := Sh.bind_some h
      refine WpC.loopS (emendref11_Defs_b2 names_1) (fun (s : Int × Int × List (List UInt8)) (a : (Option (Nat × Nat))) => [(0, (AV.rows 1 (List.map cS names_1))), (1, (iA s.1)), (6, (.own (List.map cS s.2.2).length a)), (7, (iA s.2.1))]) (fun (s : Int × Int × List (List UInt8)) (a : (Option (Nat × Nat))) H' => Holds H0 [.own 9 1 a (List.map cS s.2.2)] H') o_1 (set_1, (0 : Int), ([] : List (List UInt8))) none ho_1 ⟨rfl, rfl, rfl, rfl, trivial⟩ hH ?_
      rintro ⟨set_2, i_1, out_1⟩ p_1 st_1 env H' h hd_1 hH
      refine WpC.seq ?_
      refine WpC.seqR ?_
      refine WpOps.pn 3 rfl trivial ?_
      refine WpOps.at 17 (len_map _ _) ?_
      refine WpOps.pn 1 rfl trivial ?_
      refine WpOps.nil ?_
      refine WpC.condB rfl (fun hb => ?_) (fun hb => ?_)
      ·
        replace h := Sh.ite_pos hb h
        refine WpC.skipD ?_
        refine ⟨_, Heap.le_refl _, ?_⟩
        refine WpC.seq ?_
        refine WpC.block ?_
        refine WpC.seq ?_
        refine WpC.seqR ?_
        obtain ⟨c_1, h⟩ := Sh.chk_some h
        refine WpOps.pn 3 rfl c_1 ?_
        refine WpOps.nil ?_
        refine WpC.condB rfl (fun hb => ?_) (fun hb => ?_)
        ·
          replace h := Sh.ite_pos hb h
          refine WpC.regionD ?_
          obtain ⟨y_1, hy_1, h⟩ := Sh.bind_some h
          refine WpOps.pn 3 rfl trivial ?_
          refine WpOps.consE (v := (.rop (cS y_1))) rfl rfl (Exact.ixr cS hy_1 rfl rfl rfl rfl (by kernel_rfl) (by decide)) ?_
          refine WpOps.consE (v := (sA y_1)) rfl rfl (Exact.load_rop rfl rfl rfl) ?_
          refine WpOps.consE (v := (AV.rows 1 (List.map cS ([y_1] : List (List UInt8))))) rfl rfl (Exact.litSlice rfl (by kernel_rfl)) ?_
          obtain ⟨c_2, h⟩ := Sh.chk_some h
          refine WpOps.consG rfl rfl (WpO.pushT cS out_1 ([y_1] : List (List UInt8)) (i := 0) rfl ek22 hH rfl rfl rfl (.rows _) (fun y _ => one_cS y) (by simp) c_2 (by decide) fun p_2 H' hH => ?_)
          refine WpOps.pn 1 rfl trivial ?_
          refine WpOps.nil ?_
          refine ⟨_, Heap.le_refl _, ?_⟩
          refine WpC.regionD ?_
          obtain ⟨c_3, h⟩ := Sh.chk_some h
          refine WpOps.pn 3 rfl c_3 ?_
          refine WpOps.nil ?_
          refine ⟨_, Heap.le_refl _, ?_⟩
          refine WpC.regionD ?_
          obtain ⟨c_4, h⟩ := Sh.chk_some h
          refine WpOps.pn 3 rfl c_4 ?_
          refine WpOps.nil ?_
          obtain rfl := Sh.some_inj h
          exact ⟨_, (Heap.le_refl _), ((set_2.tdiv (2 : Int)), (i_1 + (1 : Int)), (out_1 ++ ([y_1] : List (List UInt8)))), p_2, rfl, ⟨rfl, rfl, rfl, rfl, trivial⟩, hH⟩
        ·
          replace h := Sh.ite_neg hb h
          refine WpC.skipD ?_
          refine ⟨_, Heap.le_refl _, ?_⟩
          refine WpC.regionD ?_
          obtain ⟨c_5, h⟩ := Sh.chk_some h
          refine WpOps.pn 3 rfl c_5 ?_
          refine WpOps.nil ?_
          refine ⟨_, Heap.le_refl _, ?_⟩
          refine WpC.regionD ?_
          obtain ⟨c_6, h⟩ := Sh.chk_some h
          refine WpOps.pn 3 rfl c_6 ?_
          refine WpOps.nil ?_
          obtain rfl := Sh.some_inj h
          exact ⟨_, (Heap.le_refl _), ((set_2.tdiv (2 : Int)), (i_1 + (1 : Int)), out_1), p_1, rfl, ⟨rfl, rfl, rfl, rfl, trivial⟩, hH⟩
      ·
        replace h := Sh.ite_neg hb h
        obtain rfl := Sh.some_inj h
        have e := hd_1 _ rfl
        subst e
        refine WpC.exit ?_
        exact ⟨((set_2, out_1), p_1), ⟨rfl, rfl, trivial⟩, hk_1, hH⟩
    ·
      rintro ⟨⟨set_3, out_2⟩, p_3⟩ env H' ⟨h, hH⟩
      try dsimp only at h
      refine ⟨_, Heap.le_refl _, ?_⟩
      refine WpC.seq ?_
      refine WpC.seqR ?_
      refine WpOps.pn 2 rfl trivial ?_
      refine WpOps.nil ?_
      refine WpC.condB rfl (fun hb => ?_) (fun hb => ?_)
      ·
        replace h := Sh.ite_pos hb h
        refine WpC.seqR ?_
        refine WpOps.pn 2 rfl trivial ?_
        refine WpOps.nil ?_
        refine WpC.sub (t := 4) (Sub.nil 1) ?_
        refine WpC.lose (i := 0) hH rfl (fun H' hH => ?_)
        obtain rfl := Sh.some_inj h
        refine WpC.ret ?_
        exact VEnds.ret2 rfl rfl rfl ⟨rfl, hH⟩
      ·
        replace h := Sh.ite_neg hb h
        refine WpC.skipD ?_
        refine ⟨_, Heap.le_refl _, ?_⟩
        refine WpC.seqR ?_
        refine WpOps.pn 3 rfl trivial ?_
        refine WpOps.nil ?_
        refine WpC.freeze (t := 4) (i := 0) hH rfl rfl (fun H' hH => ?_)
        obtain rfl := Sh.some_inj h
        refine WpC.ret ?_
        exact VEnds.ret2 rfl rfl rfl ⟨rfl, hH⟩

theorem w_slices_Index_Lstring_string {H0 : Heap} {s_1 : List (List UInt8)} {v_1 : List UInt8} {r : Int} (h : slices_Index_Lstring_string s_1 v_1 = some r) : TCall Tryd.prog 24 [(AV.rows 1 (List.map cS s_1)), (sA v_1)] H0 (fun v H' => v = (iA r) ∧ H' = H0) noE := by
  refine id (TCall.body Tryd.func24 rfl rfl ?_)
  have hH : Holds H0 [] H0 := rfl
  refine WpC.seqR ?_
  refine WpOps.pn 1 rfl trivial ?_
  refine WpOps.nil ?_
  refine WpC.seq ?_
  refine WpC.seqR ?_
  refine WpOps.pn 2 rfl trivial ?_
  refine WpOps.at 7 (len_map _ _) ?_
  refine WpOps.pn 1 rfl trivial ?_
  refine WpOps.nil ?_
  refine WpC.blockK (fun x : (Unit) × (Unit) => []) (fun x H' => slices_Index_Lstring_string_j1 x.1 = some r ∧ Holds H0 [] H') ?_ ?_
  ·
    obtain ⟨o_1, ho_1, hk_1⟩ := Sh.bind_some h
    refine WpC.loopS (slices_Index_Lstring_string_b2 s_1 v_1) (fun (s : Int) (a : Unit) => [(0, (AV.rows 1 (List.map cS s_1))), (1, (sA v_1)), (7, (iA (s_1.length : Int))), (8, (iA s))]) (fun (s : Int) (a : Unit) H' => Holds H0 [] H') o_1 (0 : Int) () ho_1 ⟨rfl, rfl, rfl, rfl, trivial⟩ hH ?_
    rintro t8_1 _ st_1 env H' h hd_1 hH
    refine WpC.seqR ?_
    refine WpOps.pn 1 rfl trivial ?_
    refine WpOps.nil ?_
    refine WpC.seq ?_
    refine WpC.condB rfl (fun hb => ?_) (fun hb => ?_)
    ·
      replace h := Sh.ite_pos hb h
      refine WpC.skipD ?_
      refine ⟨_, Heap.le_refl _, ?_⟩
      refine WpC.seq ?_
      refine WpC.block ?_
      refine WpC.seqR ?_
      refine WpOps.pn 2 rfl trivial ?_
      refine WpOps.nil ?_
      refine WpC.seqR ?_
      obtain ⟨y_1, hy_1, h⟩ := Sh.bind_some h
      refine WpOps.pn 3 rfl trivial ?_
      refine WpOps.consE (v := (.rop (cS y_1))) rfl rfl (Exact.ixr cS hy_1 rfl rfl rfl rfl (by kernel_rfl) (by decide)) ?_
      refine WpOps.consE (v := (sA y_1)) rfl rfl (Exact.load_rop rfl rfl rfl) ?_
      refine WpOps.pn 1 rfl trivial ?_
      refine WpOps.nil ?_
      refine WpC.condB rfl (fun hb => ?_) (fun hb => ?_)
      ·
        replace h := Sh.ite_pos hb h
        refine WpC.seqR ?_
        refine WpOps.pn 2 rfl trivial ?_
        refine WpOps.nil ?_
        obtain rfl := Sh.some_inj h
        have e := hd_1 _ rfl
        subst e
        have h := hk_1
        obtain rfl := Sh.some_inj h
        refine WpC.ret ?_
        exact VEnds.ret1 rfl rfl ⟨rfl, hH⟩
      ·
        replace h := Sh.ite_neg hb h
        refine WpC.skipD ?_
        refine ⟨_, Heap.le_refl _, ?_⟩
        refine WpC.regionD ?_
        obtain ⟨c_1, h⟩ := Sh.chk_some h
        refine WpOps.pn 2 rfl c_1 ?_
        refine WpOps.nil ?_
        obtain rfl := Sh.some_inj h
        exact ⟨_, (Heap.le_refl _), (t8_1 + (1 : Int)), (), rfl, ⟨rfl, rfl, rfl, rfl, trivial⟩, hH⟩
    ·
      replace h := Sh.ite_neg hb h
      obtain rfl := Sh.some_inj h
      have e := hd_1 _ rfl
      subst e
      refine WpC.exit ?_
      exact ⟨((), ()), trivial, hk_1, hH⟩
  ·
    rintro ⟨_, _⟩ env H' ⟨h, hH⟩
    try dsimp only at h
    refine ⟨_, Heap.le_refl _, ?_⟩
    refine WpC.seqR ?_
    refine WpOps.pn 1 rfl trivial ?_
    refine WpOps.nil ?_
    obtain rfl := Sh.some_inj h
    refine WpC.ret ?_
    exact VEnds.ret1 rfl rfl ⟨rfl, hH⟩

theorem w_world_Set {H0 : Heap} {names_1 : List (List UInt8)} {defs_1 : List (List UInt8)} {r : Int × Int} (h : world_Set names_1 defs_1 = some r) : TCall Tryd.prog 11 [(AV.rows 1 (List.map cS names_1)), (AV.rows 1 (List.map cS defs_1))] H0 (fun v H' => v = (.tup [(iA r.1), (iA r.2)]) ∧ H' = H0) noE := by
  refine id (TCall.body Tryd.func11 rfl rfl ?_)
  have hH : Holds H0 [] H0 := rfl
  refine WpC.seqR ?_
  refine WpOps.pn 2 rfl trivial ?_
  refine WpOps.nil ?_
  refine WpC.seq ?_
  refine WpC.seqR ?_
  refine WpOps.pn 2 rfl trivial ?_
  refine WpOps.at 11 (len_map _ _) ?_
  refine WpOps.pn 1 rfl trivial ?_
  refine WpOps.nil ?_
  refine WpC.condB rfl (fun hb => ?_) (fun hb => ?_)
  ·
    replace h := Sh.ite_pos hb h
    refine WpC.seqR ?_
    refine WpOps.pn 2 rfl trivial ?_
    refine WpOps.nil ?_
    obtain rfl := Sh.some_inj h
    refine WpC.ret ?_
    exact VEnds.ret2 rfl rfl rfl ⟨rfl, hH⟩
  ·
    replace h := Sh.ite_neg hb h
    refine WpC.skipD ?_
    refine ⟨_, Heap.le_refl _, ?_⟩
    refine WpC.seqR ?_
    refine WpOps.pn 1 rfl trivial ?_
    refine WpOps.nil ?_
    refine WpC.seq ?_
    refine WpC.seqR ?_
    refine WpOps.pn 2 rfl trivial ?_
    refine WpOps.at 14 (len_map _ _) ?_
    refine WpOps.pn 1 rfl trivial ?_
    refine WpOps.nil ?_
    refine WpC.blockK (fun x : (Int) × (Unit) => [(6, (iA x.1))]) (fun x H' => world_Set_j1 x.1 = some r ∧ Holds H0 [] H') ?_ ?_
    ·
      obtain ⟨o_1, ho_1, hk_1⟩ := Sh.bind_some h
      refine WpC.loopS (world_Set_b2 names_1 defs_1) (fun (s : Int × Int) (a : Unit) => [(0, (AV.rows 1 (List.map cS names_1))), (6, (iA s.1)), (13, (AV.rows 1 (List.map cS defs_1))), (14, (iA (defs_1.length : Int))), (15, (iA s.2))]) (fun (s : Int × Int) (a : Unit) H' => Holds H0 [] H') o_1 ((0 : Int), (0 : Int)) () ho_1 ⟨rfl, rfl, rfl, rfl, rfl, trivial⟩ hH ?_
      rintro ⟨set_1, t15_1⟩ _ st_1 env H' h hd_1 hH
      refine WpC.seqR ?_
      refine WpOps.pn 1 rfl trivial ?_
      refine WpOps.nil ?_
      refine WpC.seq ?_
      refine WpC.condB rfl (fun hb => ?_) (fun hb => ?_)
      ·
        replace h := Sh.ite_pos hb h
        refine WpC.skipD ?_
        refine ⟨_, Heap.le_refl _, ?_⟩
        refine WpC.seq ?_
        refine WpC.block ?_
        refine WpC.seqR ?_
        obtain ⟨y_1, hy_1, h⟩ := Sh.bind_some h
        refine WpOps.consE (v := (.rop (cS y_1))) rfl rfl (Exact.ixr cS hy_1 rfl rfl rfl rfl (by kernel_rfl) (by decide)) ?_
        refine WpOps.consE (v := (sA y_1)) rfl rfl (Exact.load_rop rfl rfl rfl) ?_
        refine WpOps.pn 1 rfl trivial ?_
        refine WpOps.nil ?_
        refine WpC.seqR ?_
        obtain ⟨r_1, hr_1, h⟩ := Sh.bind_some h
        refine WpOps.pn 2 rfl trivial ?_
        refine WpOps.consE (v := (iA r_1)) rfl rfl (Exact.call rfl rfl rfl (w_slices_Index_Lstring_string hr_1)) ?_
        refine WpOps.pn 1 rfl trivial ?_
        refine WpOps.nil ?_
        refine WpC.seq ?_
        refine WpC.seqR ?_
        refine WpOps.pn 2 rfl trivial ?_
        refine WpOps.nil ?_
        refine WpC.condB rfl (fun hb => ?_) (fun hb => ?_)
        ·
          replace h := Sh.ite_pos hb h
          refine WpC.seqR ?_
          refine WpOps.pn 2 rfl trivial ?_
          refine WpOps.nil ?_
          obtain rfl := Sh.some_inj h
          have e := hd_1 _ rfl
          subst e
          have h := hk_1
          obtain rfl := Sh.some_inj h
          refine WpC.ret ?_
          exact VEnds.ret2 rfl rfl rfl ⟨rfl, hH⟩
        ·
          replace h := Sh.ite_neg hb h
          refine WpC.skipD ?_
          refine ⟨_, Heap.le_refl _, ?_⟩
          refine WpC.regionD ?_
          obtain ⟨c_1, h⟩ := Sh.chk_some h
          refine WpOps.pn 5 rfl c_1 ?_
          refine WpOps.nil ?_
          refine ⟨_, Heap.le_refl _, ?_⟩
          refine WpC.regionD ?_
          obtain ⟨c_2, h⟩ := Sh.chk_some h
          refine WpOps.pn 2 rfl c_2 ?_
          refine WpOps.nil ?_
          obtain rfl := Sh.some_inj h
          exact ⟨_, (Heap.le_refl _), ((Sh.bor set_1 (Sh.shl (1 : Int) r_1)), (t15_1 + (1 : Int))), (), rfl, ⟨rfl, rfl, rfl, rfl, rfl, trivial⟩, hH⟩
      ·
        replace h := Sh.ite_neg hb h
        obtain rfl := Sh.some_inj h
        have e := hd_1 _ rfl
        subst e
        refine WpC.exit ?_
        exact ⟨(set_1, ()), ⟨rfl, trivial⟩, hk_1, hH⟩
    ·
      rintro ⟨set_2, _⟩ env H' ⟨h, hH⟩
      try dsimp only at h
      refine ⟨_, Heap.le_refl _, ?_⟩
      refine WpC.seqR ?_
      refine WpOps.pn 3 rfl trivial ?_
      refine WpOps.nil ?_
      obtain rfl := Sh.some_inj h
      refine WpC.ret ?_
      exact VEnds.ret2 rfl rfl rfl ⟨rfl, hH⟩

theorem w_emendref11_Has {H0 : Heap} {l_1 : List (List UInt8)} {name_1 : List UInt8} {r : Bool} (h : emendref11_Has l_1 name_1 = some r) : TCall Tryd.prog 23 [(AV.rows 1 (List.map cS l_1)), (sA name_1)] H0 (fun v H' => v = (bA r) ∧ H' = H0) noE := by
  refine id (TCall.body Tryd.func23 rfl rfl ?_)
  have hH : Holds H0 [] H0 := rfl
  refine WpC.seqR ?_
  refine WpOps.pn 1 rfl trivial ?_
  refine WpOps.nil ?_
  refine WpC.seq ?_
  refine WpC.seqR ?_
  refine WpOps.pn 1 rfl trivial ?_
  refine WpOps.nil ?_
  refine WpC.blockK (fun x : (Unit) × (Unit) => []) (fun x H' => emendref11_Has_j1 x.1 = some r ∧ Holds H0 [] H') ?_ ?_
  ·
    obtain ⟨o_1, ho_1, hk_1⟩ := Sh.bind_some h
    refine WpC.loopS (emendref11_Has_b2 l_1 name_1) (fun (s : Int) (a : Unit) => [(0, (AV.rows 1 (List.map cS l_1))), (1, (sA name_1)), (5, (iA s))]) (fun (s : Int) (a : Unit) H' => Holds H0 [] H') o_1 (0 : Int) () ho_1 ⟨rfl, rfl, rfl, trivial⟩ hH ?_
    rintro i_1 _ st_1 env H' h hd_1 hH
    refine WpC.seq ?_
    refine WpC.seqR ?_
    refine WpOps.pn 3 rfl trivial ?_
    refine WpOps.at 8 (len_map _ _) ?_
    refine WpOps.pn 1 rfl trivial ?_
    refine WpOps.nil ?_
    refine WpC.condB rfl (fun hb => ?_) (fun hb => ?_)
    ·
      replace h := Sh.ite_pos hb h
      refine WpC.skipD ?_
      refine ⟨_, Heap.le_refl _, ?_⟩
      refine WpC.seq ?_
      refine WpC.block ?_
      refine WpC.seqR ?_
      obtain ⟨y_1, hy_1, h⟩ := Sh.bind_some h
      refine WpOps.pn 2 rfl trivial ?_
      refine WpOps.consE (v := (.rop (cS y_1))) rfl rfl (Exact.ixr cS hy_1 rfl rfl rfl rfl (by kernel_rfl) (by decide)) ?_
      refine WpOps.consE (v := (sA y_1)) rfl rfl (Exact.load_rop rfl rfl rfl) ?_
      refine WpOps.pn 2 rfl trivial ?_
      refine WpOps.nil ?_
      refine WpC.condB rfl (fun hb => ?_) (fun hb => ?_)
      ·
        replace h := Sh.ite_pos hb h
        refine WpC.seqR ?_
        refine WpOps.pn 1 rfl trivial ?_
        refine WpOps.nil ?_
        obtain rfl := Sh.some_inj h
        have e := hd_1 _ rfl
        subst e
        have h := hk_1
        obtain rfl := Sh.some_inj h
        refine WpC.ret ?_
        exact VEnds.ret1 rfl rfl ⟨rfl, hH⟩
      ·
        replace h := Sh.ite_neg hb h
        refine WpC.skipD ?_
        refine ⟨_, Heap.le_refl _, ?_⟩
        refine WpC.regionD ?_
        obtain ⟨c_1, h⟩ := Sh.chk_some h
        refine WpOps.pn 3 rfl c_1 ?_
        refine WpOps.nil ?_
        obtain rfl := Sh.some_inj h
        exact ⟨_, (Heap.le_refl _), (i_1 + (1 : Int)), (), rfl, ⟨rfl, rfl, rfl, trivial⟩, hH⟩
    ·
      replace h := Sh.ite_neg hb h
      obtain rfl := Sh.some_inj h
      have e := hd_1 _ rfl
      subst e
      refine WpC.exit ?_
      exact ⟨((), ()), trivial, hk_1, hH⟩
  ·
    rintro ⟨_, _⟩ env H' ⟨h, hH⟩
    try dsimp only at h
    refine ⟨_, Heap.le_refl _, ?_⟩
    refine WpC.seqR ?_
    refine WpOps.pn 1 rfl trivial ?_
    refine WpOps.nil ?_
    obtain rfl := Sh.some_inj h
    refine WpC.ret ?_
    exact VEnds.ret1 rfl rfl ⟨rfl, hH⟩

theorem w_emendref11_Set {H0 : Heap} {names_1 : List (List UInt8)} {defs_1 : List (List UInt8)} {r : Int × Int} (h : emendref11_Set names_1 defs_1 = some r) : TCall Tryd.prog 12 [(AV.rows 1 (List.map cS names_1)), (AV.rows 1 (List.map cS defs_1))] H0 (fun v H' => v = (.tup [(iA r.1), (iA r.2)]) ∧ H' = H0) noE := by
  refine id (TCall.body Tryd.func12 rfl rfl ?_)
  have hH : Holds H0 [] H0 := rfl
  refine WpC.seqR ?_
  refine WpOps.pn 2 rfl trivial ?_
  refine WpOps.nil ?_
  refine WpC.seq ?_
  refine WpC.seqR ?_
  refine WpOps.pn 2 rfl trivial ?_
  refine WpOps.at 13 (len_map _ _) ?_
  refine WpOps.pn 1 rfl trivial ?_
  refine WpOps.nil ?_
  refine WpC.condB rfl (fun hb => ?_) (fun hb => ?_)
  ·
    replace h := Sh.ite_pos hb h
    refine WpC.seqR ?_
    refine WpOps.pn 2 rfl trivial ?_
    refine WpOps.nil ?_
    obtain rfl := Sh.some_inj h
    refine WpC.ret ?_
    exact VEnds.ret2 rfl rfl rfl ⟨rfl, hH⟩
  ·
    replace h := Sh.ite_neg hb h
    refine WpC.skipD ?_
    refine ⟨_, Heap.le_refl _, ?_⟩
    refine WpC.seq ?_
    refine WpC.seqR ?_
    refine WpOps.pn 1 rfl trivial ?_
    refine WpOps.nil ?_
    refine WpC.blockK (fun x : (Unit) × (Unit) => [(0, (AV.rows 1 (List.map cS names_1))), (1, (AV.rows 1 (List.map cS defs_1)))]) (fun x H' => (emendref11_Set_j1 names_1 defs_1) x.1 = some r ∧ Holds H0 [] H') ?_ ?_
    ·
      obtain ⟨o_1, ho_1, hk_1⟩ := Sh.bind_some h
      refine WpC.loopS (emendref11_Set_b2 names_1 defs_1) (fun (s : Int) (a : Unit) => [(0, (AV.rows 1 (List.map cS names_1))), (1, (AV.rows 1 (List.map cS defs_1))), (6, (iA s))]) (fun (s : Int) (a : Unit) H' => Holds H0 [] H') o_1 (0 : Int) () ho_1 ⟨rfl, rfl, rfl, trivial⟩ hH ?_
      rintro i_1 _ st_1 env H' h hd_1 hH
      refine WpC.seq ?_
      refine WpC.seqR ?_
      refine WpOps.pn 3 rfl trivial ?_
      refine WpOps.at 17 (len_map _ _) ?_
      refine WpOps.pn 1 rfl trivial ?_
      refine WpOps.nil ?_
      refine WpC.condB rfl (fun hb => ?_) (fun hb => ?_)
      ·
        replace h := Sh.ite_pos hb h
        refine WpC.skipD ?_
        refine ⟨_, Heap.le_refl _, ?_⟩
        refine WpC.seq ?_
        refine WpC.block ?_
        refine WpC.seqR ?_
        obtain ⟨y_1, hy_1, h⟩ := Sh.bind_some h
        refine WpOps.pn 3 rfl trivial ?_
        refine WpOps.consE (v := (.rop (cS y_1))) rfl rfl (Exact.ixr cS hy_1 rfl rfl rfl rfl (by kernel_rfl) (by decide)) ?_
        refine WpOps.consE (v := (sA y_1)) rfl rfl (Exact.load_rop rfl rfl rfl) ?_
        obtain ⟨r_1, hr_1, h⟩ := Sh.bind_some h
        refine WpOps.consE (v := (bA r_1)) rfl rfl (Exact.call rfl rfl rfl (w_emendref11_Has hr_1)) ?_
        refine WpOps.pn 1 rfl trivial ?_
        refine WpOps.nil ?_
        refine WpC.seqR ?_
        refine WpOps.pn 2 rfl trivial ?_
        refine WpOps.nil ?_
        refine WpC.condB rfl (fun hb => ?_) (fun hb => ?_)
        ·
          replace h := Sh.ite_pos hb h
          refine WpC.seqR ?_
          refine WpOps.pn 2 rfl trivial ?_
          refine WpOps.nil ?_
          obtain rfl := Sh.some_inj h
          have e := hd_1 _ rfl
          subst e
          have h := hk_1
          obtain rfl := Sh.some_inj h
          refine WpC.ret ?_
          exact VEnds.ret2 rfl rfl rfl ⟨rfl, hH⟩
        ·
          replace h := Sh.ite_neg hb h
          refine WpC.skipD ?_
          refine ⟨_, Heap.le_refl _, ?_⟩
          refine WpC.regionD ?_
          obtain ⟨c_1, h⟩ := Sh.chk_some h
          refine WpOps.pn 3 rfl c_1 ?_
          refine WpOps.nil ?_
          obtain rfl := Sh.some_inj h
          exact ⟨_, (Heap.le_refl _), (i_1 + (1 : Int)), (), rfl, ⟨rfl, rfl, rfl, trivial⟩, hH⟩
      ·
        replace h := Sh.ite_neg hb h
        obtain rfl := Sh.some_inj h
        have e := hd_1 _ rfl
        subst e
        refine WpC.exit ?_
        exact ⟨((), ()), ⟨rfl, rfl, trivial⟩, hk_1, hH⟩
    ·
      rintro ⟨_, _⟩ env H' ⟨h, hH⟩
      try dsimp only at h
      refine ⟨_, Heap.le_refl _, ?_⟩
      refine WpC.seqR ?_
      refine WpOps.pn 1 rfl trivial ?_
      refine WpOps.nil ?_
      refine WpC.seq ?_
      refine WpC.seqR ?_
      refine WpOps.pn 1 rfl trivial ?_
      refine WpOps.nil ?_
      refine WpC.blockK (fun x : (Int) × (Unit) => [(8, (iA x.1))]) (fun x H' => emendref11_Set_j3 x.1 = some r ∧ Holds H0 [] H') ?_ ?_
      ·
        obtain ⟨o_2, ho_2, hk_2⟩ := Sh.bind_some h
        refine WpC.loopS (emendref11_Set_b4 names_1 defs_1) (fun (s : Int × Int) (a : Unit) => [(0, (AV.rows 1 (List.map cS names_1))), (1, (AV.rows 1 (List.map cS defs_1))), (8, (iA s.1)), (9, (iA s.2))]) (fun (s : Int × Int) (a : Unit) H' => Holds H0 [] H') o_2 ((0 : Int), (0 : Int)) () ho_2 ⟨rfl, rfl, rfl, rfl, trivial⟩ hH ?_
        rintro ⟨set_1, i_2⟩ _ st_2 env H' h hd_2 hH
        refine WpC.seq ?_
        refine WpC.seqR ?_
        refine WpOps.pn 3 rfl trivial ?_
        refine WpOps.at 31 (len_map _ _) ?_
        refine WpOps.pn 1 rfl trivial ?_
        refine WpOps.nil ?_
        refine WpC.condB rfl (fun hb => ?_) (fun hb => ?_)
        ·
          replace h := Sh.ite_pos hb h
          refine WpC.skipD ?_
          refine ⟨_, Heap.le_refl _, ?_⟩
          refine WpC.seq ?_
          refine WpC.block ?_
          refine WpC.seqR ?_
          obtain ⟨y_2, hy_2, h⟩ := Sh.bind_some h
          refine WpOps.pn 3 rfl trivial ?_
          refine WpOps.consE (v := (.rop (cS y_2))) rfl rfl (Exact.ixr cS hy_2 rfl rfl rfl rfl (by kernel_rfl) (by decide)) ?_
          refine WpOps.consE (v := (sA y_2)) rfl rfl (Exact.load_rop rfl rfl rfl) ?_
          obtain ⟨r_2, hr_2, h⟩ := Sh.bind_some h
          refine WpOps.consE (v := (bA r_2)) rfl rfl (Exact.call rfl rfl rfl (w_emendref11_Has hr_2)) ?_
          refine WpOps.pn 1 rfl trivial ?_
          refine WpOps.nil ?_
          refine WpC.seqD [] [0, 1, 2, 3, 4, 5, 6, 7, 8] (by kernel_rfl) (by kernel_rfl) ?_
          obtain ⟨c_2, h⟩ := Sh.chk_some h
          refine WpPi.pn 2 rfl trivial ?_
          refine WpPi.pn 1 rfl (show True ∧ 0 ≤ i_2 ∧ True ∧ (i_2).toNat ≤ (List.map cS names_1).length ∧ True from ⟨trivial, (by omega), trivial, (by simp only [List.length_map]; omega), trivial⟩) ?_
          refine WpPi.at 43 (rows_take 1 cS names_1 _) ?_
          obtain ⟨y_3, hy_3, h⟩ := Sh.bind_some h
          refine WpPi.pn 2 rfl trivial ?_
          refine WpPi.consI (v := (.rop (cS y_3))) rfl rfl rfl rfl (fun _ => Exact.ixr cS hy_3 rfl rfl rfl rfl (by kernel_rfl) (by decide)) ?_
          refine WpPi.consI (v := (sA y_3)) rfl rfl rfl rfl (fun _ => Exact.load_rop rfl rfl rfl) ?_
          obtain ⟨r_3, hr_3, h⟩ := Sh.bind_some h
          refine WpPi.consI (v := (bA r_3)) rfl rfl rfl rfl (fun _ => Exact.call rfl rfl rfl (w_emendref11_Has hr_3)) ?_
          refine WpPi.pn 1 rfl trivial ?_
          refine WpPi.nil ?_
          refine WpC.seqR ?_
          refine WpOps.pn 1 rfl trivial ?_
          obtain ⟨b_1, g_1, h⟩ := Sh.bind_some h
          refine WpOps.cutB 4 53 (bA b_1) rfl ?_ ?_
          ·
            refine WpOps.pn 1 rfl trivial ?_
            refine WpOps.split 50 rfl (fun hb => ?_) (fun hb => ?_)
            ·
              replace g_1 := Sh.ite_pos hb g_1
              refine WpOps.pn 3 rfl trivial ?_
              refine WpOps.nil ?_
              obtain rfl := Sh.some_inj g_1
              exact ⟨rfl, rfl⟩
            ·
              replace g_1 := Sh.ite_neg hb g_1
              refine WpOps.pn 3 rfl trivial ?_
              refine WpOps.nil ?_
              obtain rfl := Sh.some_inj g_1
              exact ⟨rfl, rfl⟩
          intro env
          refine WpOps.nil ?_
          refine WpC.condB rfl (fun hb => ?_) (fun hb => ?_)
          ·
            replace h := Sh.ite_pos hb h
            refine WpC.regionD ?_
            obtain ⟨c_3, h⟩ := Sh.chk_some h
            obtain ⟨c_4, h⟩ := Sh.chk_some h
            refine WpOps.pn 5 rfl ⟨c_4, c_3⟩ ?_
            refine WpOps.nil ?_
            refine ⟨_, Heap.le_refl _, ?_⟩
            refine WpC.regionD ?_
            obtain ⟨c_5, h⟩ := Sh.chk_some h
            refine WpOps.pn 3 rfl c_5 ?_
            refine WpOps.nil ?_
            obtain rfl := Sh.some_inj h
            exact ⟨_, (Heap.le_refl _), ((set_1 + (Sh.shl (1 : Int) i_2)), (i_2 + (1 : Int))), (), rfl, ⟨rfl, rfl, rfl, rfl, trivial⟩, hH⟩
          ·
            replace h := Sh.ite_neg hb h
            refine WpC.skipD ?_
            refine ⟨_, Heap.le_refl _, ?_⟩
            refine WpC.regionD ?_
            obtain ⟨c_6, h⟩ := Sh.chk_some h
            refine WpOps.pn 3 rfl c_6 ?_
            refine WpOps.nil ?_
            obtain rfl := Sh.some_inj h
            exact ⟨_, (Heap.le_refl _), (set_1, (i_2 + (1 : Int))), (), rfl, ⟨rfl, rfl, rfl, rfl, trivial⟩, hH⟩
        ·
          replace h := Sh.ite_neg hb h
          obtain rfl := Sh.some_inj h
          have e := hd_2 _ rfl
          subst e
          refine WpC.exit ?_
          exact ⟨(set_1, ()), ⟨rfl, trivial⟩, hk_2, hH⟩
      ·
        rintro ⟨set_2, _⟩ env H' ⟨h, hH⟩
        try dsimp only at h
        refine ⟨_, Heap.le_refl _, ?_⟩
        refine WpC.seqR ?_
        refine WpOps.pn 3 rfl trivial ?_
        refine WpOps.nil ?_
        obtain rfl := Sh.some_inj h
        refine WpC.ret ?_
        exact VEnds.ret2 rfl rfl rfl ⟨rfl, hH⟩

theorem w_emendref11_Same {H0 : Heap} {a_1 : List (List UInt8)} {b_1 : List (List UInt8)} {r : Bool} (h : emendref11_Same a_1 b_1 = some r) : TCall Tryd.prog 13 [(AV.rows 1 (List.map cS a_1)), (AV.rows 1 (List.map cS b_1))] H0 (fun v H' => v = (bA r) ∧ H' = H0) noE := by
  refine id (TCall.body Tryd.func13 rfl rfl ?_)
  have hH : Holds H0 [] H0 := rfl
  refine WpC.seqR ?_
  refine WpOps.pn 1 rfl trivial ?_
  refine WpOps.nil ?_
  refine WpC.seq ?_
  refine WpC.seqR ?_
  refine WpOps.pn 2 rfl trivial ?_
  refine WpOps.at 7 (len_map _ _) ?_
  refine WpOps.pn 2 rfl trivial ?_
  refine WpOps.at 9 (len_map _ _) ?_
  refine WpOps.pn 1 rfl trivial ?_
  refine WpOps.nil ?_
  refine WpC.condB rfl (fun hb => ?_) (fun hb => ?_)
  ·
    replace h := Sh.ite_pos hb h
    refine WpC.seqR ?_
    refine WpOps.pn 1 rfl trivial ?_
    refine WpOps.nil ?_
    obtain rfl := Sh.some_inj h
    refine WpC.ret ?_
    exact VEnds.ret1 rfl rfl ⟨rfl, hH⟩
  ·
    replace h := Sh.ite_neg hb h
    refine WpC.skipD ?_
    refine ⟨_, Heap.le_refl _, ?_⟩
    refine WpC.seq ?_
    refine WpC.seqR ?_
    refine WpOps.pn 1 rfl trivial ?_
    refine WpOps.nil ?_
    refine WpC.blockK (fun x : (Unit) × (Unit) => []) (fun x H' => emendref11_Same_j1 x.1 = some r ∧ Holds H0 [] H') ?_ ?_
    ·
      obtain ⟨o_1, ho_1, hk_1⟩ := Sh.bind_some h
      refine WpC.loopS (emendref11_Same_b2 a_1 b_1) (fun (s : Int) (a : Unit) => [(0, (AV.rows 1 (List.map cS a_1))), (1, (AV.rows 1 (List.map cS b_1))), (5, (iA s))]) (fun (s : Int) (a : Unit) H' => Holds H0 [] H') o_1 (0 : Int) () ho_1 ⟨rfl, rfl, rfl, trivial⟩ hH ?_
      rintro i_1 _ st_1 env H' h hd_1 hH
      refine WpC.seq ?_
      refine WpC.seqR ?_
      refine WpOps.pn 3 rfl trivial ?_
      refine WpOps.at 13 (len_map _ _) ?_
      refine WpOps.pn 1 rfl trivial ?_
      refine WpOps.nil ?_
      refine WpC.condB rfl (fun hb => ?_) (fun hb => ?_)
      ·
        replace h := Sh.ite_pos hb h
        refine WpC.skipD ?_
        refine ⟨_, Heap.le_refl _, ?_⟩
        refine WpC.seq ?_
        refine WpC.block ?_
        refine WpC.seqD [] [0, 1, 2, 3, 4, 5, 6, 7, 8] (by kernel_rfl) (by kernel_rfl) ?_
        obtain ⟨y_1, hy_1, h⟩ := Sh.bind_some h
        refine WpPi.pn 2 rfl trivial ?_
        refine WpPi.consI (v := (.rop (cS y_1))) rfl rfl rfl rfl (fun _ => Exact.ixr cS hy_1 rfl rfl rfl rfl (by kernel_rfl) (by decide)) ?_
        refine WpPi.consI (v := (sA y_1)) rfl rfl rfl rfl (fun _ => Exact.load_rop rfl rfl rfl) ?_
        obtain ⟨y_2, hy_2, h⟩ := Sh.bind_some h
        refine WpPi.pn 2 rfl trivial ?_
        refine WpPi.consI (v := (.rop (cS y_2))) rfl rfl rfl rfl (fun _ => Exact.ixr cS hy_2 rfl rfl rfl rfl (by kernel_rfl) (by decide)) ?_
        refine WpPi.consI (v := (sA y_2)) rfl rfl rfl rfl (fun _ => Exact.load_rop rfl rfl rfl) ?_
        refine WpPi.pn 1 rfl trivial ?_
        refine WpPi.nil ?_
        refine WpC.condB rfl (fun hb => ?_) (fun hb => ?_)
        ·
          replace h := Sh.ite_pos hb h
          refine WpC.seqR ?_
          refine WpOps.pn 1 rfl trivial ?_
          refine WpOps.nil ?_
          obtain rfl := Sh.some_inj h
          have e := hd_1 _ rfl
          subst e
          have h := hk_1
          obtain rfl := Sh.some_inj h
          refine WpC.ret ?_
          exact VEnds.ret1 rfl rfl ⟨rfl, hH⟩
        ·
          replace h := Sh.ite_neg hb h
          refine WpC.skipD ?_
          refine ⟨_, Heap.le_refl _, ?_⟩
          refine WpC.regionD ?_
          obtain ⟨c_1, h⟩ := Sh.chk_some h
          refine WpOps.pn 3 rfl c_1 ?_
          refine WpOps.nil ?_
          obtain rfl := Sh.some_inj h
          exact ⟨_, (Heap.le_refl _), (i_1 + (1 : Int)), (), rfl, ⟨rfl, rfl, rfl, trivial⟩, hH⟩
      ·
        replace h := Sh.ite_neg hb h
        obtain rfl := Sh.some_inj h
        have e := hd_1 _ rfl
        subst e
        refine WpC.exit ?_
        exact ⟨((), ()), trivial, hk_1, hH⟩
    ·
      rintro ⟨_, _⟩ env H' ⟨h, hH⟩
      try dsimp only at h
      refine ⟨_, Heap.le_refl _, ?_⟩
      refine WpC.seqR ?_
      refine WpOps.pn 1 rfl trivial ?_
      refine WpOps.nil ?_
      obtain rfl := Sh.some_inj h
      refine WpC.ret ?_
      exact VEnds.ret1 rfl rfl ⟨rfl, hH⟩

theorem w_emendref11_Short {H0 : Heap} {files_1 : List GFile} {most_1 : Int} {r : Bool} (h : emendref11_Short files_1 most_1 = some r) : TCall Tryd.prog 14 [(AV.rows 2 (List.map cGFile files_1)), (iA most_1)] H0 (fun v H' => v = (bA r) ∧ H' = H0) noE := by
  refine id (TCall.body Tryd.func14 rfl rfl ?_)
  have hH : Holds H0 [] H0 := rfl
  refine WpC.seqR ?_
  refine WpOps.pn 1 rfl trivial ?_
  refine WpOps.nil ?_
  refine WpC.seq ?_
  refine WpC.seqR ?_
  refine WpOps.pn 2 rfl trivial ?_
  refine WpOps.at 7 (len_map _ _) ?_
  refine WpOps.pn 1 rfl trivial ?_
  refine WpOps.nil ?_
  refine WpC.condB rfl (fun hb => ?_) (fun hb => ?_)
  ·
    replace h := Sh.ite_pos hb h
    refine WpC.seqR ?_
    refine WpOps.pn 1 rfl trivial ?_
    refine WpOps.nil ?_
    obtain rfl := Sh.some_inj h
    refine WpC.ret ?_
    exact VEnds.ret1 rfl rfl ⟨rfl, hH⟩
  ·
    replace h := Sh.ite_neg hb h
    refine WpC.skipD ?_
    refine ⟨_, Heap.le_refl _, ?_⟩
    refine WpC.seq ?_
    refine WpC.seqR ?_
    refine WpOps.pn 1 rfl trivial ?_
    refine WpOps.nil ?_
    refine WpC.blockK (fun x : (Unit) × (Unit) => []) (fun x H' => emendref11_Short_j1 x.1 = some r ∧ Holds H0 [] H') ?_ ?_
    ·
      obtain ⟨o_1, ho_1, hk_1⟩ := Sh.bind_some h
      refine WpC.loopS (emendref11_Short_b2 files_1 most_1) (fun (s : Int) (a : Unit) => [(0, (AV.rows 2 (List.map cGFile files_1))), (1, (iA most_1)), (5, (iA s))]) (fun (s : Int) (a : Unit) H' => Holds H0 [] H') o_1 (0 : Int) () ho_1 ⟨rfl, rfl, rfl, trivial⟩ hH ?_
      rintro i_1 _ st_1 env H' h hd_1 hH
      refine WpC.seq ?_
      refine WpC.seqR ?_
      refine WpOps.pn 3 rfl trivial ?_
      refine WpOps.at 11 (len_map _ _) ?_
      refine WpOps.pn 1 rfl trivial ?_
      refine WpOps.nil ?_
      refine WpC.condB rfl (fun hb => ?_) (fun hb => ?_)
      ·
        replace h := Sh.ite_pos hb h
        refine WpC.skipD ?_
        refine ⟨_, Heap.le_refl _, ?_⟩
        refine WpC.seq ?_
        refine WpC.block ?_
        refine WpC.seqR ?_
        obtain ⟨y_1, hy_1, h⟩ := Sh.bind_some h
        refine WpOps.pn 2 rfl trivial ?_
        refine WpOps.consE (v := (.rop (cGFile y_1))) rfl rfl (Exact.ixr cGFile hy_1 rfl rfl rfl rfl (by kernel_rfl) (by decide)) ?_
        refine WpOps.pn 1 rfl trivial ?_
        refine WpOps.consE (v := (sA y_1.text)) rfl rfl (Exact.load_rop rfl rfl rfl) ?_
        refine WpOps.pn 3 rfl trivial ?_
        obtain ⟨b_1, g_1, h⟩ := Sh.bind_some h
        refine WpOps.cutB 9 31 (bA b_1) rfl ?_ ?_
        ·
          refine WpOps.pn 1 rfl trivial ?_
          refine WpOps.split 23 rfl (fun hb => ?_) (fun hb => ?_)
          ·
            replace g_1 := Sh.ite_pos hb g_1
            refine WpOps.pn 8 rfl trivial ?_
            refine WpOps.nil ?_
            obtain rfl := Sh.some_inj g_1
            exact ⟨rfl, rfl⟩
          ·
            replace g_1 := Sh.ite_neg hb g_1
            obtain ⟨y_2, hy_2, g_1⟩ := Sh.bind_some g_1
            refine WpOps.pn 2 rfl trivial ?_
            refine WpOps.consE (v := (.rop (cGFile y_2))) rfl rfl (Exact.ixr cGFile hy_2 rfl rfl rfl rfl (by kernel_rfl) (by decide)) ?_
            refine WpOps.pn 1 rfl trivial ?_
            refine WpOps.consE (v := (sA y_2.path)) rfl rfl (Exact.load_rop rfl rfl rfl) ?_
            refine WpOps.pn 3 rfl trivial ?_
            refine WpOps.nil ?_
            obtain rfl := Sh.some_inj g_1
            exact ⟨rfl, rfl⟩
        intro env
        refine WpOps.nil ?_
        refine WpC.condB rfl (fun hb => ?_) (fun hb => ?_)
        ·
          replace h := Sh.ite_pos hb h
          refine WpC.seqR ?_
          refine WpOps.pn 1 rfl trivial ?_
          refine WpOps.nil ?_
          obtain rfl := Sh.some_inj h
          have e := hd_1 _ rfl
          subst e
          have h := hk_1
          obtain rfl := Sh.some_inj h
          refine WpC.ret ?_
          exact VEnds.ret1 rfl rfl ⟨rfl, hH⟩
        ·
          replace h := Sh.ite_neg hb h
          refine WpC.skipD ?_
          refine ⟨_, Heap.le_refl _, ?_⟩
          refine WpC.regionD ?_
          obtain ⟨c_1, h⟩ := Sh.chk_some h
          refine WpOps.pn 3 rfl c_1 ?_
          refine WpOps.nil ?_
          obtain rfl := Sh.some_inj h
          exact ⟨_, (Heap.le_refl _), (i_1 + (1 : Int)), (), rfl, ⟨rfl, rfl, rfl, trivial⟩, hH⟩
      ·
        replace h := Sh.ite_neg hb h
        obtain rfl := Sh.some_inj h
        have e := hd_1 _ rfl
        subst e
        refine WpC.exit ?_
        exact ⟨((), ()), trivial, hk_1, hH⟩
    ·
      rintro ⟨_, _⟩ env H' ⟨h, hH⟩
      try dsimp only at h
      refine ⟨_, Heap.le_refl _, ?_⟩
      refine WpC.seqR ?_
      refine WpOps.pn 1 rfl trivial ?_
      refine WpOps.nil ?_
      obtain rfl := Sh.some_inj h
      refine WpC.ret ?_
      exact VEnds.ret1 rfl rfl ⟨rfl, hH⟩

theorem w_emendref02_Join {H0 : Heap} {text_1 : List UInt8} {r : List GChar} (h : emendref02_Join text_1 = some r) : TCall Tryd.prog 48 [(sA text_1)] H0 (fun v H' => v = (AV.rows 2 (List.map cGChar r)) ∧ H' = H0) noE := by
  refine id (TCall.body Tryd.func48 rfl rfl ?_)
  have hH : Holds H0 [] H0 := rfl
  refine WpC.seqR ?_
  refine WpOps.pn 1 rfl trivial ?_
  refine WpOps.nil ?_
  refine WpC.seqR ?_
  refine WpOps.pn 1 rfl trivial ?_
  have hH := hH.nil 74 2
  refine WpOps.nil ?_
  refine WpC.seqR ?_
  refine WpOps.pn 1 rfl trivial ?_
  refine WpOps.nil ?_
  refine WpC.seqB (fun x : (List GChar) × ((Option (Nat × Nat))) => [(3, (.own (List.map cGChar x.1).length x.2))]) (fun x H' => emendref02_Join_j1 x.1 = some r ∧ Holds H0 [.own 74 2 x.2 (List.map cGChar x.1)] H') ?_ ?_
  ·
    obtain ⟨o_1, ho_1, hk_1⟩ := Sh.bind_some h
    refine WpC.loopS (emendref02_Join_b2 text_1) (fun (s : Int × List GChar) (a : (Option (Nat × Nat))) => [(0, (sA text_1)), (3, (.own (List.map cGChar s.2).length a)), (4, (iA s.1))]) (fun (s : Int × List GChar) (a : (Option (Nat × Nat))) H' => Holds H0 [.own 74 2 a (List.map cGChar s.2)] H') o_1 ((0 : Int), ([] : List GChar)) none ho_1 ⟨rfl, rfl, rfl, trivial⟩ hH ?_
    rintro ⟨i_1, out_1⟩ p_1 st_1 env H' h hd_1 hH
    refine WpC.seq ?_
    refine WpC.seqR ?_
    refine WpOps.pn 4 rfl trivial ?_
    refine WpOps.nil ?_
    refine WpC.condB rfl (fun hb => ?_) (fun hb => ?_)
    ·
      replace h := Sh.ite_pos hb h
      refine WpC.skipD ?_
      refine ⟨_, Heap.le_refl _, ?_⟩
      refine WpC.block ?_
      refine WpC.seq ?_
      refine WpC.seqR ?_
      obtain ⟨ch_1, hch_1, h⟩ := Sh.bind_some h
      refine WpOps.pn 2 rfl trivial ?_
      refine WpOps.consE (v := (u8A ch_1)) rfl rfl (Exact.ixs hch_1 rfl rfl rfl rfl) ?_
      refine WpOps.pn 1 rfl trivial ?_
      obtain ⟨b_1, g_1, h⟩ := Sh.bind_some h
      refine WpOps.cutB 7 19 (bA b_1) rfl ?_ ?_
      ·
        refine WpOps.pn 1 rfl trivial ?_
        refine WpOps.split 13 rfl (fun hb => ?_) (fun hb => ?_)
        ·
          replace g_1 := Sh.ite_pos hb g_1
          obtain ⟨c_1, g_1⟩ := Sh.chk_some g_1
          refine WpOps.pn 6 rfl c_1 ?_
          refine WpOps.nil ?_
          obtain rfl := Sh.some_inj g_1
          exact ⟨rfl, rfl⟩
        ·
          replace g_1 := Sh.ite_neg hb g_1
          refine WpOps.pn 6 rfl trivial ?_
          refine WpOps.nil ?_
          obtain rfl := Sh.some_inj g_1
          exact ⟨rfl, rfl⟩
      intro env
      obtain ⟨b_2, g_2, h⟩ := Sh.bind_some h
      refine WpOps.cutB 7 26 (bA b_2) rfl ?_ ?_
      ·
        refine WpOps.pn 1 rfl trivial ?_
        refine WpOps.split 20 rfl (fun hb => ?_) (fun hb => ?_)
        ·
          replace g_2 := Sh.ite_pos hb g_2
          obtain ⟨c_2, g_2⟩ := Sh.chk_some g_2
          obtain ⟨ch_2, hch_2, g_2⟩ := Sh.bind_some g_2
          refine WpOps.pn 3 rfl c_2 ?_
          refine WpOps.consE (v := (u8A ch_2)) rfl rfl (Exact.ixs hch_2 rfl rfl rfl rfl) ?_
          refine WpOps.pn 2 rfl trivial ?_
          refine WpOps.nil ?_
          obtain rfl := Sh.some_inj g_2
          exact ⟨rfl, rfl⟩
        ·
          replace g_2 := Sh.ite_neg hb g_2
          refine WpOps.pn 6 rfl trivial ?_
          refine WpOps.nil ?_
          obtain rfl := Sh.some_inj g_2
          exact ⟨rfl, rfl⟩
      intro env
      refine WpOps.nil ?_
      refine WpC.condB rfl (fun hb => ?_) (fun hb => ?_)
      ·
        replace h := Sh.ite_pos hb h
        refine WpC.seqR ?_
        obtain ⟨c_3, h⟩ := Sh.chk_some h
        refine WpOps.pn 3 rfl c_3 ?_
        refine WpOps.nil ?_
        refine WpC.exitD ?_
        obtain rfl := Sh.some_inj h
        exact ⟨_, (Heap.le_refl _), ((i_1 + (2 : Int)), out_1), p_1, rfl, ⟨rfl, rfl, rfl, trivial⟩, hH⟩
      ·
        replace h := Sh.ite_neg hb h
        refine WpC.skipD ?_
        refine ⟨_, Heap.le_refl _, ?_⟩
        refine WpC.seqR ?_
        obtain ⟨ch_3, hch_3, h⟩ := Sh.bind_some h
        refine WpOps.pn 3 rfl trivial ?_
        refine WpOps.consE (v := (u8A ch_3)) rfl rfl (Exact.ixs hch_3 rfl rfl rfl rfl) ?_
        refine WpOps.pn 2 rfl trivial ?_
        refine WpOps.consE (v := (AV.rows 2 (List.map cGChar ([(GChar.mk ch_3 i_1)] : List GChar)))) rfl rfl (Exact.litSlice rfl (by kernel_rfl)) ?_
        obtain ⟨c_4, h⟩ := Sh.chk_some h
        refine WpOps.consG rfl rfl (WpO.pushT cGChar out_1 ([(GChar.mk ch_3 i_1)] : List GChar) (i := 0) rfl ek65 hH rfl rfl rfl (.rows _) (fun y _ => one_cGChar y) (by simp) c_4 (by decide) fun p_2 H' hH => ?_)
        refine WpOps.pn 1 rfl trivial ?_
        refine WpOps.nil ?_
        refine WpC.regionD ?_
        obtain ⟨c_5, h⟩ := Sh.chk_some h
        refine WpOps.pn 3 rfl c_5 ?_
        refine WpOps.nil ?_
        obtain rfl := Sh.some_inj h
        exact ⟨_, (Heap.le_refl _), ((i_1 + (1 : Int)), (out_1 ++ ([(GChar.mk ch_3 i_1)] : List GChar))), p_2, rfl, ⟨rfl, rfl, rfl, trivial⟩, hH⟩
    ·
      replace h := Sh.ite_neg hb h
      obtain rfl := Sh.some_inj h
      have e := hd_1 _ rfl
      subst e
      refine WpC.exit ?_
      exact ⟨(out_1, p_1), ⟨rfl, trivial⟩, hk_1, hH⟩
  ·
    rintro ⟨out_2, p_3⟩ env H' ⟨h, hH⟩
    try dsimp only at h
    refine WpC.seqR ?_
    refine WpOps.pn 2 rfl trivial ?_
    refine WpOps.nil ?_
    refine WpC.freeze (t := 2) (i := 0) hH rfl rfl (fun H' hH => ?_)
    obtain rfl := Sh.some_inj h
    refine WpC.ret ?_
    exact VEnds.ret1 rfl rfl ⟨rfl, hH⟩

theorem w_emendref02_Text {H0 : Heap} {l_1 : List GChar} {r : List UInt8} (h : emendref02_Text l_1 = some r) : TCall Tryd.prog 49 [(AV.rows 2 (List.map cGChar l_1))] H0 (fun v H' => v = (sA r) ∧ H' = H0) noE := by
  refine id (TCall.body Tryd.func49 rfl rfl ?_)
  have hH : Holds H0 [] H0 := rfl
  refine WpC.seqR ?_
  refine WpOps.pn 1 rfl trivial ?_
  refine WpOps.nil ?_
  refine WpC.seqR ?_
  refine WpOps.pn 1 rfl trivial ?_
  refine WpOps.nil ?_
  refine WpC.seq ?_
  refine WpC.seqR ?_
  refine WpOps.pn 1 rfl trivial ?_
  refine WpOps.nil ?_
  refine WpC.blockK (fun x : (List UInt8) × (Unit) => [(3, (sA x.1))]) (fun x H' => emendref02_Text_j1 x.1 = some r ∧ Holds H0 [] H') ?_ ?_
  ·
    obtain ⟨o_1, ho_1, hk_1⟩ := Sh.bind_some h
    refine WpC.loopS (emendref02_Text_b2 l_1) (fun (s : List UInt8 × Int) (a : Unit) => [(0, (AV.rows 2 (List.map cGChar l_1))), (3, (sA s.1)), (4, (iA s.2))]) (fun (s : List UInt8 × Int) (a : Unit) H' => Holds H0 [] H') o_1 (([] : List UInt8), (0 : Int)) () ho_1 ⟨rfl, rfl, rfl, trivial⟩ hH ?_
    rintro ⟨s_1, i_1⟩ _ st_1 env H' h hd_1 hH
    refine WpC.seq ?_
    refine WpC.seqR ?_
    refine WpOps.pn 3 rfl trivial ?_
    refine WpOps.at 7 (len_map _ _) ?_
    refine WpOps.pn 1 rfl trivial ?_
    refine WpOps.nil ?_
    refine WpC.condB rfl (fun hb => ?_) (fun hb => ?_)
    ·
      replace h := Sh.ite_pos hb h
      refine WpC.skipD ?_
      refine ⟨_, Heap.le_refl _, ?_⟩
      refine WpC.seq ?_
      refine WpC.block ?_
      refine WpC.regionD ?_
      obtain ⟨y_1, hy_1, h⟩ := Sh.bind_some h
      refine WpOps.pn 3 rfl trivial ?_
      refine WpOps.consE (v := (.rop (cGChar y_1))) rfl rfl (Exact.ixr cGChar hy_1 rfl rfl rfl rfl (by kernel_rfl) (by decide)) ?_
      refine WpOps.pn 1 rfl trivial ?_
      refine WpOps.consE (v := (u8A y_1.b)) rfl rfl (Exact.load_rop rfl rfl rfl) ?_
      refine WpOps.consE (v := (AV.rows 1 (List.map cU ([y_1.b] : List UInt8)))) rfl rfl (Exact.litSlice rfl (by kernel_rfl)) ?_
      refine WpOps.consE (v := (sA ([y_1.b] : List UInt8))) rfl rfl (Exact.string_of_bytes (bs := ([y_1.b] : List UInt8)) rfl rfl rfl rfl rfl (.rows _)) ?_
      obtain ⟨c_1, h⟩ := Sh.chk_some h
      refine WpOps.pn 2 rfl c_1 ?_
      refine WpOps.nil ?_
      refine ⟨_, Heap.le_refl _, ?_⟩
      refine WpC.regionD ?_
      obtain ⟨c_2, h⟩ := Sh.chk_some h
      refine WpOps.pn 3 rfl c_2 ?_
      refine WpOps.nil ?_
      obtain rfl := Sh.some_inj h
      exact ⟨_, (Heap.le_refl _), ((s_1 ++ ([y_1.b] : List UInt8)), (i_1 + (1 : Int))), (), rfl, ⟨rfl, rfl, rfl, trivial⟩, hH⟩
    ·
      replace h := Sh.ite_neg hb h
      obtain rfl := Sh.some_inj h
      have e := hd_1 _ rfl
      subst e
      refine WpC.exit ?_
      exact ⟨(s_1, ()), ⟨rfl, trivial⟩, hk_1, hH⟩
  ·
    rintro ⟨s_2, _⟩ env H' ⟨h, hH⟩
    try dsimp only at h
    refine ⟨_, Heap.le_refl _, ?_⟩
    refine WpC.seqR ?_
    refine WpOps.pn 2 rfl trivial ?_
    refine WpOps.nil ?_
    obtain rfl := Sh.some_inj h
    refine WpC.ret ?_
    exact VEnds.ret1 rfl rfl ⟨rfl, hH⟩

theorem w_emendref03_is {H0 : Heap} {s_1 : List UInt8} {i_1 : Int} {t_1 : List UInt8} {r : Bool} (h : emendref03_is s_1 i_1 t_1 = some r) : TCall Tryd.prog 66 [(sA s_1), (iA i_1), (sA t_1)] H0 (fun v H' => v = (bA r) ∧ H' = H0) noE := by
  refine id (TCall.body Tryd.func66 rfl rfl ?_)
  have hH : Holds H0 [] H0 := rfl
  refine WpC.seqR ?_
  refine WpOps.pn 1 rfl trivial ?_
  refine WpOps.nil ?_
  refine WpC.seqR ?_
  obtain ⟨c_1, h⟩ := Sh.chk_some h
  refine WpOps.pn 7 rfl c_1 ?_
  obtain ⟨b_1, g_1, h⟩ := Sh.bind_some h
  refine WpOps.cutB 11 24 (bA b_1) rfl ?_ ?_
  ·
    refine WpOps.pn 1 rfl trivial ?_
    refine WpOps.split 14 rfl (fun hb => ?_) (fun hb => ?_)
    ·
      replace g_1 := Sh.ite_pos hb g_1
      obtain ⟨c_2, g_1⟩ := Sh.chk_some g_1
      obtain ⟨c_3, g_1⟩ := Sh.chk_some g_1
      refine WpOps.pn 6 rfl c_2 ?_
      refine WpOps.pn 1 rfl (show 0 ≤ i_1 ∧ 0 ≤ (i_1 + (t_1.length : Int)) ∧ ((i_1).toNat ≤ ((i_1 + (t_1.length : Int))).toNat ∧ ((i_1 + (t_1.length : Int))).toNat ≤ s_1.length) from ⟨(by omega), (by omega), (by omega)⟩) ?_
      refine WpOps.pn 3 rfl trivial ?_
      refine WpOps.nil ?_
      obtain rfl := Sh.some_inj g_1
      exact ⟨rfl, rfl⟩
    ·
      replace g_1 := Sh.ite_neg hb g_1
      refine WpOps.pn 10 rfl trivial ?_
      refine WpOps.nil ?_
      obtain rfl := Sh.some_inj g_1
      exact ⟨rfl, rfl⟩
  intro env
  refine WpOps.pn 1 rfl trivial ?_
  refine WpOps.nil ?_
  obtain rfl := Sh.some_inj h
  refine WpC.ret ?_
  exact VEnds.ret1 rfl rfl ⟨rfl, hH⟩

theorem w_emendref03_blank {H0 : Heap} {s_1 : List UInt8} {i_1 : Int} {r : Int} (h : emendref03_blank s_1 i_1 = some r) : TCall Tryd.prog 50 [(sA s_1), (iA i_1)] H0 (fun v H' => v = (iA r) ∧ H' = H0) noE := by
  refine id (TCall.body Tryd.func50 rfl rfl ?_)
  have hH : Holds H0 [] H0 := rfl
  refine WpC.seqR ?_
  refine WpOps.pn 1 rfl trivial ?_
  refine WpOps.nil ?_
  refine WpC.seq ?_
  refine WpC.seqR ?_
  obtain ⟨ch_1, hch_1, h⟩ := Sh.bind_some h
  refine WpOps.pn 2 rfl trivial ?_
  refine WpOps.consE (v := (u8A ch_1)) rfl rfl (Exact.ixs hch_1 rfl rfl rfl rfl) ?_
  refine WpOps.pn 1 rfl trivial ?_
  obtain ⟨b_1, g_1, h⟩ := Sh.bind_some h
  refine WpOps.cutB 6 18 (bA b_1) rfl ?_ ?_
  ·
    refine WpOps.pn 1 rfl trivial ?_
    refine WpOps.split 13 rfl (fun hb => ?_) (fun hb => ?_)
    ·
      replace g_1 := Sh.ite_pos hb g_1
      refine WpOps.pn 5 rfl trivial ?_
      refine WpOps.nil ?_
      obtain rfl := Sh.some_inj g_1
      exact ⟨rfl, rfl⟩
    ·
      replace g_1 := Sh.ite_neg hb g_1
      obtain ⟨ch_2, hch_2, g_1⟩ := Sh.bind_some g_1
      refine WpOps.pn 2 rfl trivial ?_
      refine WpOps.consE (v := (u8A ch_2)) rfl rfl (Exact.ixs hch_2 rfl rfl rfl rfl) ?_
      refine WpOps.pn 2 rfl trivial ?_
      refine WpOps.nil ?_
      obtain rfl := Sh.some_inj g_1
      exact ⟨rfl, rfl⟩
  intro env
  obtain ⟨b_2, g_2, h⟩ := Sh.bind_some h
  refine WpOps.cutB 12 30 (bA b_2) rfl ?_ ?_
  ·
    refine WpOps.pn 1 rfl trivial ?_
    refine WpOps.split 19 rfl (fun hb => ?_) (fun hb => ?_)
    ·
      replace g_2 := Sh.ite_pos hb g_2
      refine WpOps.pn 11 rfl trivial ?_
      refine WpOps.nil ?_
      obtain rfl := Sh.some_inj g_2
      exact ⟨rfl, rfl⟩
    ·
      replace g_2 := Sh.ite_neg hb g_2
      obtain ⟨ch_3, hch_3, g_2⟩ := Sh.bind_some g_2
      refine WpOps.pn 2 rfl trivial ?_
      refine WpOps.consE (v := (u8A ch_3)) rfl rfl (Exact.ixs hch_3 rfl rfl rfl rfl) ?_
      refine WpOps.pn 1 rfl trivial ?_
      obtain ⟨b_3, g_3, g_2⟩ := Sh.bind_some g_2
      refine WpOps.cutB 6 29 (bA b_3) rfl ?_ ?_
      ·
        refine WpOps.pn 1 rfl trivial ?_
        refine WpOps.split 24 rfl (fun hb => ?_) (fun hb => ?_)
        ·
          replace g_3 := Sh.ite_pos hb g_3
          obtain ⟨ch_4, hch_4, g_3⟩ := Sh.bind_some g_3
          refine WpOps.pn 2 rfl trivial ?_
          refine WpOps.consE (v := (u8A ch_4)) rfl rfl (Exact.ixs hch_4 rfl rfl rfl rfl) ?_
          refine WpOps.pn 2 rfl trivial ?_
          refine WpOps.nil ?_
          obtain rfl := Sh.some_inj g_3
          exact ⟨rfl, rfl⟩
        ·
          replace g_3 := Sh.ite_neg hb g_3
          refine WpOps.pn 5 rfl trivial ?_
          refine WpOps.nil ?_
          obtain rfl := Sh.some_inj g_3
          exact ⟨rfl, rfl⟩
      intro env
      refine WpOps.pn 1 rfl trivial ?_
      refine WpOps.nil ?_
      obtain rfl := Sh.some_inj g_2
      exact ⟨rfl, rfl⟩
  intro env
  refine WpOps.nil ?_
  refine WpC.condB rfl (fun hb => ?_) (fun hb => ?_)
  ·
    replace h := Sh.ite_pos hb h
    refine WpC.seqR ?_
    obtain ⟨c_1, h⟩ := Sh.chk_some h
    refine WpOps.pn 3 rfl c_1 ?_
    refine WpOps.nil ?_
    obtain rfl := Sh.some_inj h
    refine WpC.ret ?_
    exact VEnds.ret1 rfl rfl ⟨rfl, hH⟩
  ·
    replace h := Sh.ite_neg hb h
    refine WpC.skipD ?_
    refine ⟨_, Heap.le_refl _, ?_⟩
    refine WpC.seqR ?_
    obtain ⟨r_1, hr_1, h⟩ := Sh.bind_some h
    refine WpOps.pn 2 rfl trivial ?_
    refine WpOps.consE (v := (bA r_1)) rfl rfl (Exact.call rfl rfl rfl (w_emendref03_is hr_1)) ?_
    refine WpOps.pn 1 rfl trivial ?_
    refine WpOps.nil ?_
    refine WpC.seq ?_
    refine WpC.seqR ?_
    refine WpOps.pn 1 rfl trivial ?_
    refine WpOps.nil ?_
    refine WpC.condB rfl (fun hb => ?_) (fun hb => ?_)
    ·
      replace h := Sh.ite_pos hb h
      refine WpC.seqB (fun x : (Int) × (Unit) => [(1, (iA x.1))]) (fun x H' => emendref03_blank_j1 x.1 = some r ∧ Holds H0 [] H') ?_ ?_
      ·
        obtain ⟨o_1, ho_1, hk_1⟩ := Sh.bind_some h
        refine WpC.loopS (emendref03_blank_b2 s_1) (fun (s : Int) (a : Unit) => [(0, (sA s_1)), (1, (iA s))]) (fun (s : Int) (a : Unit) H' => Holds H0 [] H') o_1 i_1 () ho_1 ⟨rfl, rfl, trivial⟩ hH ?_
        rintro i_2 _ st_1 env H' h hd_1 hH
        refine WpC.seq ?_
        refine WpC.seqR ?_
        refine WpOps.pn 4 rfl trivial ?_
        obtain ⟨b_4, g_4, h⟩ := Sh.bind_some h
        refine WpOps.cutB 6 46 (bA b_4) rfl ?_ ?_
        ·
          refine WpOps.pn 1 rfl trivial ?_
          refine WpOps.split 41 rfl (fun hb => ?_) (fun hb => ?_)
          ·
            replace g_4 := Sh.ite_pos hb g_4
            obtain ⟨ch_5, hch_5, g_4⟩ := Sh.bind_some g_4
            refine WpOps.pn 2 rfl trivial ?_
            refine WpOps.consE (v := (u8A ch_5)) rfl rfl (Exact.ixs hch_5 rfl rfl rfl rfl) ?_
            refine WpOps.pn 2 rfl trivial ?_
            refine WpOps.nil ?_
            obtain rfl := Sh.some_inj g_4
            exact ⟨rfl, rfl⟩
          ·
            replace g_4 := Sh.ite_neg hb g_4
            refine WpOps.pn 5 rfl trivial ?_
            refine WpOps.nil ?_
            obtain rfl := Sh.some_inj g_4
            exact ⟨rfl, rfl⟩
        intro env
        refine WpOps.nil ?_
        refine WpC.condB rfl (fun hb => ?_) (fun hb => ?_)
        ·
          replace h := Sh.ite_pos hb h
          refine WpC.skipD ?_
          refine ⟨_, Heap.le_refl _, ?_⟩
          refine WpC.block ?_
          refine WpC.regionD ?_
          obtain ⟨c_2, h⟩ := Sh.chk_some h
          refine WpOps.pn 3 rfl c_2 ?_
          refine WpOps.nil ?_
          obtain rfl := Sh.some_inj h
          exact ⟨_, (Heap.le_refl _), (i_2 + (1 : Int)), (), rfl, ⟨rfl, rfl, trivial⟩, hH⟩
        ·
          replace h := Sh.ite_neg hb h
          obtain rfl := Sh.some_inj h
          have e := hd_1 _ rfl
          subst e
          refine WpC.exit ?_
          exact ⟨(i_2, ()), ⟨rfl, trivial⟩, hk_1, hH⟩
      ·
        rintro ⟨i_3, _⟩ env H' ⟨h, hH⟩
        try dsimp only at h
        refine WpC.seqR ?_
        refine WpOps.pn 2 rfl trivial ?_
        refine WpOps.nil ?_
        obtain rfl := Sh.some_inj h
        refine WpC.ret ?_
        exact VEnds.ret1 rfl rfl ⟨rfl, hH⟩
    ·
      replace h := Sh.ite_neg hb h
      refine WpC.skipD ?_
      refine ⟨_, Heap.le_refl _, ?_⟩
      refine WpC.seqR ?_
      obtain ⟨r_2, hr_2, h⟩ := Sh.bind_some h
      refine WpOps.pn 2 rfl trivial ?_
      refine WpOps.consE (v := (bA r_2)) rfl rfl (Exact.call rfl rfl rfl (w_emendref03_is hr_2)) ?_
      refine WpOps.pn 1 rfl trivial ?_
      refine WpOps.nil ?_
      refine WpC.seqK (fun x : (Unit) × (Unit) => [(1, (iA i_1))]) (fun x H' => (emendref03_blank_j3 i_1) x.1 = some r ∧ Holds H0 [] H') ?_ ?_
      ·
        refine WpC.seqR ?_
        refine WpOps.pn 1 rfl trivial ?_
        refine WpOps.nil ?_
        refine WpC.condB rfl (fun hb => ?_) (fun hb => ?_)
        ·
          replace h := Sh.ite_pos hb h
          refine WpC.seqR ?_
          obtain ⟨c_3, h⟩ := Sh.chk_some h
          refine WpOps.pn 3 rfl c_3 ?_
          refine WpOps.nil ?_
          refine WpC.blockK (fun x : (Unit) × (Unit) => [(1, (iA i_1))]) (fun x H' => (emendref03_blank_j4 i_1) x.1 = some r ∧ Holds H0 [] H') ?_ ?_
          ·
            obtain ⟨o_2, ho_2, hk_2⟩ := Sh.bind_some h
            refine WpC.loopS (emendref03_blank_b5 s_1) (fun (s : Int) (a : Unit) => [(0, (sA s_1)), (1, (iA i_1)), (7, (iA s))]) (fun (s : Int) (a : Unit) H' => Holds H0 [] H') o_2 (i_1 + (2 : Int)) () ho_2 ⟨rfl, rfl, rfl, trivial⟩ hH ?_
            rintro k_1 _ st_2 env H' h hd_2 hH
            refine WpC.seq ?_
            refine WpC.seqR ?_
            refine WpOps.pn 4 rfl trivial ?_
            refine WpOps.nil ?_
            refine WpC.condB rfl (fun hb => ?_) (fun hb => ?_)
            ·
              replace h := Sh.ite_pos hb h
              refine WpC.skipD ?_
              refine ⟨_, Heap.le_refl _, ?_⟩
              refine WpC.seq ?_
              refine WpC.block ?_
              refine WpC.seqR ?_
              obtain ⟨r_3, hr_3, h⟩ := Sh.bind_some h
              refine WpOps.pn 2 rfl trivial ?_
              refine WpOps.consE (v := (bA r_3)) rfl rfl (Exact.call rfl rfl rfl (w_emendref03_is hr_3)) ?_
              refine WpOps.pn 1 rfl trivial ?_
              refine WpOps.nil ?_
              refine WpC.seqR ?_
              refine WpOps.pn 1 rfl trivial ?_
              refine WpOps.nil ?_
              refine WpC.condB rfl (fun hb => ?_) (fun hb => ?_)
              ·
                replace h := Sh.ite_pos hb h
                refine WpC.seqR ?_
                obtain ⟨c_4, h⟩ := Sh.chk_some h
                refine WpOps.pn 3 rfl c_4 ?_
                refine WpOps.nil ?_
                obtain rfl := Sh.some_inj h
                have e := hd_2 _ rfl
                subst e
                have h := hk_2
                obtain rfl := Sh.some_inj h
                refine WpC.ret ?_
                exact VEnds.ret1 rfl rfl ⟨rfl, hH⟩
              ·
                replace h := Sh.ite_neg hb h
                refine WpC.skipD ?_
                refine ⟨_, Heap.le_refl _, ?_⟩
                refine WpC.regionD ?_
                obtain ⟨c_5, h⟩ := Sh.chk_some h
                refine WpOps.pn 3 rfl c_5 ?_
                refine WpOps.nil ?_
                obtain rfl := Sh.some_inj h
                exact ⟨_, (Heap.le_refl _), (k_1 + (1 : Int)), (), rfl, ⟨rfl, rfl, rfl, trivial⟩, hH⟩
            ·
              replace h := Sh.ite_neg hb h
              obtain rfl := Sh.some_inj h
              have e := hd_2 _ rfl
              subst e
              refine WpC.exit ?_
              exact ⟨((), ()), ⟨rfl, trivial⟩, hk_2, hH⟩
          ·
            rintro ⟨_, _⟩ env H' ⟨h, hH⟩
            try dsimp only at h
            exact ⟨_, (Heap.le_refl _), ((), ()), ⟨rfl, trivial⟩, h, hH⟩
        ·
          replace h := Sh.ite_neg hb h
          refine WpC.skipD ?_
          exact ⟨_, (Heap.le_refl _), ((), ()), ⟨rfl, trivial⟩, h, hH⟩
      ·
        rintro ⟨_, _⟩ env H' ⟨h, hH⟩
        try dsimp only at h
        refine WpC.seqR ?_
        refine WpOps.pn 2 rfl trivial ?_
        refine WpOps.nil ?_
        obtain rfl := Sh.some_inj h
        refine WpC.ret ?_
        exact VEnds.ret1 rfl rfl ⟨rfl, hH⟩

theorem w_emendref03_letter {H0 : Heap} {c_1 : UInt8} {r : Bool} (h : emendref03_letter c_1 = some r) : TCall Tryd.prog 92 [(u8A c_1)] H0 (fun v H' => v = (bA r) ∧ H' = H0) noE := by
  refine id (TCall.body Tryd.func92 rfl rfl ?_)
  have hH : Holds H0 [] H0 := rfl
  refine WpC.seqR ?_
  refine WpOps.pn 1 rfl trivial ?_
  refine WpOps.nil ?_
  refine WpC.seqR ?_
  refine WpOps.pn 2 rfl trivial ?_
  obtain ⟨b_1, g_1, h⟩ := Sh.bind_some h
  refine WpOps.cutB 8 12 (bA b_1) rfl ?_ ?_
  ·
    refine WpOps.pn 1 rfl trivial ?_
    refine WpOps.split 5 rfl (fun hb => ?_) (fun hb => ?_)
    ·
      replace g_1 := Sh.ite_pos hb g_1
      refine WpOps.pn 7 rfl trivial ?_
      refine WpOps.nil ?_
      obtain rfl := Sh.some_inj g_1
      exact ⟨rfl, rfl⟩
    ·
      replace g_1 := Sh.ite_neg hb g_1
      refine WpOps.pn 2 rfl trivial ?_
      obtain ⟨b_2, g_2, g_1⟩ := Sh.bind_some g_1
      refine WpOps.cutB 4 11 (bA b_2) rfl ?_ ?_
      ·
        refine WpOps.pn 1 rfl trivial ?_
        refine WpOps.split 8 rfl (fun hb => ?_) (fun hb => ?_)
        ·
          replace g_2 := Sh.ite_pos hb g_2
          refine WpOps.pn 3 rfl trivial ?_
          refine WpOps.nil ?_
          obtain rfl := Sh.some_inj g_2
          exact ⟨rfl, rfl⟩
        ·
          replace g_2 := Sh.ite_neg hb g_2
          refine WpOps.pn 3 rfl trivial ?_
          refine WpOps.nil ?_
          obtain rfl := Sh.some_inj g_2
          exact ⟨rfl, rfl⟩
      intro env
      refine WpOps.pn 1 rfl trivial ?_
      refine WpOps.nil ?_
      obtain rfl := Sh.some_inj g_1
      exact ⟨rfl, rfl⟩
  intro env
  obtain ⟨b_3, g_3, h⟩ := Sh.bind_some h
  refine WpOps.cutB 8 20 (bA b_3) rfl ?_ ?_
  ·
    refine WpOps.pn 1 rfl trivial ?_
    refine WpOps.split 13 rfl (fun hb => ?_) (fun hb => ?_)
    ·
      replace g_3 := Sh.ite_pos hb g_3
      refine WpOps.pn 7 rfl trivial ?_
      refine WpOps.nil ?_
      obtain rfl := Sh.some_inj g_3
      exact ⟨rfl, rfl⟩
    ·
      replace g_3 := Sh.ite_neg hb g_3
      refine WpOps.pn 2 rfl trivial ?_
      obtain ⟨b_4, g_4, g_3⟩ := Sh.bind_some g_3
      refine WpOps.cutB 4 19 (bA b_4) rfl ?_ ?_
      ·
        refine WpOps.pn 1 rfl trivial ?_
        refine WpOps.split 16 rfl (fun hb => ?_) (fun hb => ?_)
        ·
          replace g_4 := Sh.ite_pos hb g_4
          refine WpOps.pn 3 rfl trivial ?_
          refine WpOps.nil ?_
          obtain rfl := Sh.some_inj g_4
          exact ⟨rfl, rfl⟩
        ·
          replace g_4 := Sh.ite_neg hb g_4
          refine WpOps.pn 3 rfl trivial ?_
          refine WpOps.nil ?_
          obtain rfl := Sh.some_inj g_4
          exact ⟨rfl, rfl⟩
      intro env
      refine WpOps.pn 1 rfl trivial ?_
      refine WpOps.nil ?_
      obtain rfl := Sh.some_inj g_3
      exact ⟨rfl, rfl⟩
  intro env
  refine WpOps.pn 1 rfl trivial ?_
  refine WpOps.nil ?_
  obtain rfl := Sh.some_inj h
  refine WpC.ret ?_
  exact VEnds.ret1 rfl rfl ⟨rfl, hH⟩

theorem w_emendref03_digit {H0 : Heap} {c_1 : UInt8} {r : Bool} (h : emendref03_digit c_1 = some r) : TCall Tryd.prog 93 [(u8A c_1)] H0 (fun v H' => v = (bA r) ∧ H' = H0) noE := by
  refine id (TCall.body Tryd.func93 rfl rfl ?_)
  have hH : Holds H0 [] H0 := rfl
  refine WpC.seqR ?_
  refine WpOps.pn 1 rfl trivial ?_
  refine WpOps.nil ?_
  refine WpC.seqR ?_
  refine WpOps.pn 2 rfl trivial ?_
  obtain ⟨b_1, g_1, h⟩ := Sh.bind_some h
  refine WpOps.cutB 4 8 (bA b_1) rfl ?_ ?_
  ·
    refine WpOps.pn 1 rfl trivial ?_
    refine WpOps.split 5 rfl (fun hb => ?_) (fun hb => ?_)
    ·
      replace g_1 := Sh.ite_pos hb g_1
      refine WpOps.pn 3 rfl trivial ?_
      refine WpOps.nil ?_
      obtain rfl := Sh.some_inj g_1
      exact ⟨rfl, rfl⟩
    ·
      replace g_1 := Sh.ite_neg hb g_1
      refine WpOps.pn 3 rfl trivial ?_
      refine WpOps.nil ?_
      obtain rfl := Sh.some_inj g_1
      exact ⟨rfl, rfl⟩
  intro env
  refine WpOps.pn 1 rfl trivial ?_
  refine WpOps.nil ?_
  obtain rfl := Sh.some_inj h
  refine WpC.ret ?_
  exact VEnds.ret1 rfl rfl ⟨rfl, hH⟩

theorem w_emendref03_word {H0 : Heap} {s_1 : List UInt8} {i_1 : Int} {r : Int} (h : emendref03_word s_1 i_1 = some r) : TCall Tryd.prog 67 [(sA s_1), (iA i_1)] H0 (fun v H' => v = (iA r) ∧ H' = H0) noE := by
  refine id (TCall.body Tryd.func67 rfl rfl ?_)
  have hH : Holds H0 [] H0 := rfl
  refine WpC.seqR ?_
  refine WpOps.pn 1 rfl trivial ?_
  refine WpOps.nil ?_
  refine WpC.seqR ?_
  refine WpOps.pn 1 rfl trivial ?_
  refine WpOps.nil ?_
  refine WpC.seqB (fun x : (Int) × (Unit) => [(5, (iA x.1))]) (fun x H' => emendref03_word_j1 x.1 = some r ∧ Holds H0 [] H') ?_ ?_
  ·
    obtain ⟨o_1, ho_1, hk_1⟩ := Sh.bind_some h
    refine WpC.loopS (emendref03_word_b2 s_1 i_1) (fun (s : Int) (a : Unit) => [(0, (sA s_1)), (1, (iA i_1)), (5, (iA s))]) (fun (s : Int) (a : Unit) H' => Holds H0 [] H') o_1 (0 : Int) () ho_1 ⟨rfl, rfl, rfl, trivial⟩ hH ?_
    rintro n_1 _ st_1 env H' h hd_1 hH
    refine WpC.seq ?_
    refine WpC.seqR ?_
    obtain ⟨c_1, h⟩ := Sh.chk_some h
    refine WpOps.pn 6 rfl c_1 ?_
    obtain ⟨b_1, g_1, h⟩ := Sh.bind_some h
    refine WpOps.cutB 20 31 (bA b_1) rfl ?_ ?_
    ·
      refine WpOps.pn 1 rfl trivial ?_
      refine WpOps.split 12 rfl (fun hb => ?_) (fun hb => ?_)
      ·
        replace g_1 := Sh.ite_pos hb g_1
        obtain ⟨c_2, g_1⟩ := Sh.chk_some g_1
        obtain ⟨ch_1, hch_1, g_1⟩ := Sh.bind_some g_1
        refine WpOps.pn 4 rfl c_2 ?_
        refine WpOps.consE (v := (u8A ch_1)) rfl rfl (Exact.ixs hch_1 rfl rfl rfl rfl) ?_
        obtain ⟨r_1, hr_1, g_1⟩ := Sh.bind_some g_1
        refine WpOps.consE (v := (bA r_1)) rfl rfl (Exact.call rfl rfl rfl (w_emendref03_letter hr_1)) ?_
        obtain ⟨b_2, g_2, g_1⟩ := Sh.bind_some g_1
        refine WpOps.cutB 12 30 (bA b_2) rfl ?_ ?_
        ·
          refine WpOps.pn 1 rfl trivial ?_
          refine WpOps.split 19 rfl (fun hb => ?_) (fun hb => ?_)
          ·
            replace g_2 := Sh.ite_pos hb g_2
            refine WpOps.pn 11 rfl trivial ?_
            refine WpOps.nil ?_
            obtain rfl := Sh.some_inj g_2
            exact ⟨rfl, rfl⟩
          ·
            replace g_2 := Sh.ite_neg hb g_2
            refine WpOps.pn 2 rfl trivial ?_
            obtain ⟨b_3, g_3, g_2⟩ := Sh.bind_some g_2
            refine WpOps.cutB 8 29 (bA b_3) rfl ?_ ?_
            ·
              refine WpOps.pn 1 rfl trivial ?_
              refine WpOps.split 22 rfl (fun hb => ?_) (fun hb => ?_)
              ·
                replace g_3 := Sh.ite_pos hb g_3
                obtain ⟨c_3, g_3⟩ := Sh.chk_some g_3
                obtain ⟨ch_2, hch_2, g_3⟩ := Sh.bind_some g_3
                refine WpOps.pn 4 rfl c_3 ?_
                refine WpOps.consE (v := (u8A ch_2)) rfl rfl (Exact.ixs hch_2 rfl rfl rfl rfl) ?_
                obtain ⟨r_2, hr_2, g_3⟩ := Sh.bind_some g_3
                refine WpOps.consE (v := (bA r_2)) rfl rfl (Exact.call rfl rfl rfl (w_emendref03_digit hr_2)) ?_
                refine WpOps.pn 1 rfl trivial ?_
                refine WpOps.nil ?_
                obtain rfl := Sh.some_inj g_3
                exact ⟨rfl, rfl⟩
              ·
                replace g_3 := Sh.ite_neg hb g_3
                refine WpOps.pn 7 rfl trivial ?_
                refine WpOps.nil ?_
                obtain rfl := Sh.some_inj g_3
                exact ⟨rfl, rfl⟩
            intro env
            refine WpOps.pn 1 rfl trivial ?_
            refine WpOps.nil ?_
            obtain rfl := Sh.some_inj g_2
            exact ⟨rfl, rfl⟩
        intro env
        refine WpOps.pn 1 rfl trivial ?_
        refine WpOps.nil ?_
        obtain rfl := Sh.some_inj g_1
        exact ⟨rfl, rfl⟩
      ·
        replace g_1 := Sh.ite_neg hb g_1
        refine WpOps.pn 19 rfl trivial ?_
        refine WpOps.nil ?_
        obtain rfl := Sh.some_inj g_1
        exact ⟨rfl, rfl⟩
    intro env
    refine WpOps.nil ?_
    refine WpC.condB rfl (fun hb => ?_) (fun hb => ?_)
    ·
      replace h := Sh.ite_pos hb h
      refine WpC.skipD ?_
      refine ⟨_, Heap.le_refl _, ?_⟩
      refine WpC.block ?_
      refine WpC.regionD ?_
      obtain ⟨c_4, h⟩ := Sh.chk_some h
      refine WpOps.pn 3 rfl c_4 ?_
      refine WpOps.nil ?_
      obtain rfl := Sh.some_inj h
      exact ⟨_, (Heap.le_refl _), (n_1 + (1 : Int)), (), rfl, ⟨rfl, rfl, rfl, trivial⟩, hH⟩
    ·
      replace h := Sh.ite_neg hb h
      obtain rfl := Sh.some_inj h
      have e := hd_1 _ rfl
      subst e
      refine WpC.exit ?_
      exact ⟨(n_1, ()), ⟨rfl, trivial⟩, hk_1, hH⟩
  ·
    rintro ⟨n_2, _⟩ env H' ⟨h, hH⟩
    try dsimp only at h
    refine WpC.seqR ?_
    refine WpOps.pn 2 rfl trivial ?_
    refine WpOps.nil ?_
    obtain rfl := Sh.some_inj h
    refine WpC.ret ?_
    exact VEnds.ret1 rfl rfl ⟨rfl, hH⟩

theorem w_emendref03_number {H0 : Heap} {s_1 : List UInt8} {i_1 : Int} {r : Int} (h : emendref03_number s_1 i_1 = some r) : TCall Tryd.prog 68 [(sA s_1), (iA i_1)] H0 (fun v H' => v = (iA r) ∧ H' = H0) noE := by
  refine id (TCall.body Tryd.func68 rfl rfl ?_)
  have hH : Holds H0 [] H0 := rfl
  refine WpC.seqR ?_
  refine WpOps.pn 1 rfl trivial ?_
  refine WpOps.nil ?_
  refine WpC.seqR ?_
  obtain ⟨ch_1, hch_1, h⟩ := Sh.bind_some h
  refine WpOps.pn 2 rfl trivial ?_
  refine WpOps.consE (v := (u8A ch_1)) rfl rfl (Exact.ixs hch_1 rfl rfl rfl rfl) ?_
  obtain ⟨r_1, hr_1, h⟩ := Sh.bind_some h
  refine WpOps.consE (v := (bA r_1)) rfl rfl (Exact.call rfl rfl rfl (w_emendref03_digit hr_1)) ?_
  refine WpOps.pn 1 rfl trivial ?_
  refine WpOps.nil ?_
  refine WpC.seq ?_
  refine WpC.seqR ?_
  refine WpOps.pn 2 rfl trivial ?_
  obtain ⟨b_1, g_1, h⟩ := Sh.bind_some h
  refine WpOps.cutB 21 35 (bA b_1) rfl ?_ ?_
  ·
    refine WpOps.pn 1 rfl trivial ?_
    refine WpOps.split 15 rfl (fun hb => ?_) (fun hb => ?_)
    ·
      replace g_1 := Sh.ite_pos hb g_1
      obtain ⟨ch_2, hch_2, g_1⟩ := Sh.bind_some g_1
      refine WpOps.pn 2 rfl trivial ?_
      refine WpOps.consE (v := (u8A ch_2)) rfl rfl (Exact.ixs hch_2 rfl rfl rfl rfl) ?_
      refine WpOps.pn 1 rfl trivial ?_
      obtain ⟨b_2, g_2, g_1⟩ := Sh.bind_some g_1
      refine WpOps.cutB 7 26 (bA b_2) rfl ?_ ?_
      ·
        refine WpOps.pn 1 rfl trivial ?_
        refine WpOps.split 20 rfl (fun hb => ?_) (fun hb => ?_)
        ·
          replace g_2 := Sh.ite_pos hb g_2
          obtain ⟨c_1, g_2⟩ := Sh.chk_some g_2
          refine WpOps.pn 6 rfl c_1 ?_
          refine WpOps.nil ?_
          obtain rfl := Sh.some_inj g_2
          exact ⟨rfl, rfl⟩
        ·
          replace g_2 := Sh.ite_neg hb g_2
          refine WpOps.pn 6 rfl trivial ?_
          refine WpOps.nil ?_
          obtain rfl := Sh.some_inj g_2
          exact ⟨rfl, rfl⟩
      intro env
      obtain ⟨b_3, g_3, g_1⟩ := Sh.bind_some g_1
      refine WpOps.cutB 7 33 (bA b_3) rfl ?_ ?_
      ·
        refine WpOps.pn 1 rfl trivial ?_
        refine WpOps.split 27 rfl (fun hb => ?_) (fun hb => ?_)
        ·
          replace g_3 := Sh.ite_pos hb g_3
          obtain ⟨c_2, g_3⟩ := Sh.chk_some g_3
          obtain ⟨ch_3, hch_3, g_3⟩ := Sh.bind_some g_3
          refine WpOps.pn 3 rfl c_2 ?_
          refine WpOps.consE (v := (u8A ch_3)) rfl rfl (Exact.ixs hch_3 rfl rfl rfl rfl) ?_
          obtain ⟨r_2, hr_2, g_3⟩ := Sh.bind_some g_3
          refine WpOps.consE (v := (bA r_2)) rfl rfl (Exact.call rfl rfl rfl (w_emendref03_digit hr_2)) ?_
          refine WpOps.pn 1 rfl trivial ?_
          refine WpOps.nil ?_
          obtain rfl := Sh.some_inj g_3
          exact ⟨rfl, rfl⟩
        ·
          replace g_3 := Sh.ite_neg hb g_3
          refine WpOps.pn 6 rfl trivial ?_
          refine WpOps.nil ?_
          obtain rfl := Sh.some_inj g_3
          exact ⟨rfl, rfl⟩
      intro env
      refine WpOps.pn 2 rfl trivial ?_
      refine WpOps.nil ?_
      obtain rfl := Sh.some_inj g_1
      exact ⟨rfl, rfl⟩
    ·
      replace g_1 := Sh.ite_neg hb g_1
      refine WpOps.pn 20 rfl trivial ?_
      refine WpOps.nil ?_
      obtain rfl := Sh.some_inj g_1
      exact ⟨rfl, rfl⟩
  intro env
  refine WpOps.nil ?_
  refine WpC.condB rfl (fun hb => ?_) (fun hb => ?_)
  ·
    replace h := Sh.ite_pos hb h
    refine WpC.seqR ?_
    refine WpOps.pn 1 rfl trivial ?_
    refine WpOps.nil ?_
    obtain rfl := Sh.some_inj h
    refine WpC.ret ?_
    exact VEnds.ret1 rfl rfl ⟨rfl, hH⟩
  ·
    replace h := Sh.ite_neg hb h
    refine WpC.skipD ?_
    refine ⟨_, Heap.le_refl _, ?_⟩
    refine WpC.seqR ?_
    refine WpOps.pn 1 rfl trivial ?_
    refine WpOps.nil ?_
    refine WpC.seqB (fun x : (Int) × (Unit) => [(6, (iA x.1))]) (fun x H' => emendref03_number_j1 x.1 = some r ∧ Holds H0 [] H') ?_ ?_
    ·
      obtain ⟨o_1, ho_1, hk_1⟩ := Sh.bind_some h
      refine WpC.loopS (emendref03_number_b2 s_1 i_1) (fun (s : Int) (a : Unit) => [(0, (sA s_1)), (1, (iA i_1)), (6, (iA s))]) (fun (s : Int) (a : Unit) H' => Holds H0 [] H') o_1 (1 : Int) () ho_1 ⟨rfl, rfl, rfl, trivial⟩ hH ?_
      rintro n_1 _ st_1 env H' h hd_1 hH
      refine WpC.seq ?_
      refine WpC.seqR ?_
      obtain ⟨c_3, h⟩ := Sh.chk_some h
      refine WpOps.pn 6 rfl c_3 ?_
      refine WpOps.nil ?_
      refine WpC.condB rfl (fun hb => ?_) (fun hb => ?_)
      ·
        replace h := Sh.ite_pos hb h
        refine WpC.skipD ?_
        refine ⟨_, Heap.le_refl _, ?_⟩
        refine WpC.block ?_
        refine WpC.seqR ?_
        obtain ⟨c_4, h⟩ := Sh.chk_some h
        obtain ⟨ch_4, hch_4, h⟩ := Sh.bind_some h
        refine WpOps.pn 4 rfl c_4 ?_
        refine WpOps.consE (v := (u8A ch_4)) rfl rfl (Exact.ixs hch_4 rfl rfl rfl rfl) ?_
        refine WpOps.pn 1 rfl trivial ?_
        refine WpOps.nil ?_
        refine WpC.seqR ?_
        obtain ⟨c_5, h⟩ := Sh.chk_some h
        obtain ⟨c_6, h⟩ := Sh.chk_some h
        refine WpOps.pn 7 rfl ⟨c_6, c_5⟩ ?_
        obtain ⟨b_4, g_4, h⟩ := Sh.bind_some h
        refine WpOps.cutB 18 71 (bA b_4) rfl ?_ ?_
        ·
          refine WpOps.pn 1 rfl trivial ?_
          refine WpOps.split 54 rfl (fun hb => ?_) (fun hb => ?_)
          ·
            replace g_4 := Sh.ite_pos hb g_4
            obtain ⟨c_7, g_4⟩ := Sh.chk_some g_4
            obtain ⟨c_8, g_4⟩ := Sh.chk_some g_4
            obtain ⟨ch_5, hch_5, g_4⟩ := Sh.bind_some g_4
            refine WpOps.pn 5 rfl ⟨c_8, c_7⟩ ?_
            refine WpOps.consE (v := (u8A ch_5)) rfl rfl (Exact.ixs hch_5 rfl rfl rfl rfl) ?_
            refine WpOps.pn 1 rfl trivial ?_
            obtain ⟨b_5, g_5, g_4⟩ := Sh.bind_some g_4
            refine WpOps.cutB 9 70 (bA b_5) rfl ?_ ?_
            ·
              refine WpOps.pn 1 rfl trivial ?_
              refine WpOps.split 62 rfl (fun hb => ?_) (fun hb => ?_)
              ·
                replace g_5 := Sh.ite_pos hb g_5
                refine WpOps.pn 8 rfl trivial ?_
                refine WpOps.nil ?_
                obtain rfl := Sh.some_inj g_5
                exact ⟨rfl, rfl⟩
              ·
                replace g_5 := Sh.ite_neg hb g_5
                obtain ⟨c_9, g_5⟩ := Sh.chk_some g_5
                obtain ⟨c_10, g_5⟩ := Sh.chk_some g_5
                obtain ⟨ch_6, hch_6, g_5⟩ := Sh.bind_some g_5
                refine WpOps.pn 5 rfl ⟨c_10, c_9⟩ ?_
                refine WpOps.consE (v := (u8A ch_6)) rfl rfl (Exact.ixs hch_6 rfl rfl rfl rfl) ?_
                refine WpOps.pn 2 rfl trivial ?_
                refine WpOps.nil ?_
                obtain rfl := Sh.some_inj g_5
                exact ⟨rfl, rfl⟩
            intro env
            refine WpOps.pn 1 rfl trivial ?_
            refine WpOps.nil ?_
            obtain rfl := Sh.some_inj g_4
            exact ⟨rfl, rfl⟩
          ·
            replace g_4 := Sh.ite_neg hb g_4
            refine WpOps.pn 17 rfl trivial ?_
            refine WpOps.nil ?_
            obtain rfl := Sh.some_inj g_4
            exact ⟨rfl, rfl⟩
        intro env
        refine WpOps.pn 1 rfl trivial ?_
        refine WpOps.nil ?_
        refine WpC.seq ?_
        refine WpC.seqR ?_
        refine WpOps.pn 2 rfl trivial ?_
        obtain ⟨b_6, g_6, h⟩ := Sh.bind_some h
        refine WpOps.cutB 4 77 (bA b_6) rfl ?_ ?_
        ·
          refine WpOps.pn 1 rfl trivial ?_
          refine WpOps.split 74 rfl (fun hb => ?_) (fun hb => ?_)
          ·
            replace g_6 := Sh.ite_pos hb g_6
            refine WpOps.pn 3 rfl trivial ?_
            refine WpOps.nil ?_
            obtain rfl := Sh.some_inj g_6
            exact ⟨rfl, rfl⟩
          ·
            replace g_6 := Sh.ite_neg hb g_6
            refine WpOps.pn 3 rfl trivial ?_
            refine WpOps.nil ?_
            obtain rfl := Sh.some_inj g_6
            exact ⟨rfl, rfl⟩
        intro env
        obtain ⟨b_7, g_7, h⟩ := Sh.bind_some h
        refine WpOps.cutB 4 81 (bA b_7) rfl ?_ ?_
        ·
          refine WpOps.pn 1 rfl trivial ?_
          refine WpOps.split 78 rfl (fun hb => ?_) (fun hb => ?_)
          ·
            replace g_7 := Sh.ite_pos hb g_7
            refine WpOps.pn 3 rfl trivial ?_
            refine WpOps.nil ?_
            obtain rfl := Sh.some_inj g_7
            exact ⟨rfl, rfl⟩
          ·
            replace g_7 := Sh.ite_neg hb g_7
            refine WpOps.pn 3 rfl trivial ?_
            refine WpOps.nil ?_
            obtain rfl := Sh.some_inj g_7
            exact ⟨rfl, rfl⟩
        intro env
        obtain ⟨b_8, g_8, h⟩ := Sh.bind_some h
        refine WpOps.cutB 4 85 (bA b_8) rfl ?_ ?_
        ·
          refine WpOps.pn 1 rfl trivial ?_
          refine WpOps.split 82 rfl (fun hb => ?_) (fun hb => ?_)
          ·
            replace g_8 := Sh.ite_pos hb g_8
            refine WpOps.pn 3 rfl trivial ?_
            refine WpOps.nil ?_
            obtain rfl := Sh.some_inj g_8
            exact ⟨rfl, rfl⟩
          ·
            replace g_8 := Sh.ite_neg hb g_8
            refine WpOps.pn 3 rfl trivial ?_
            refine WpOps.nil ?_
            obtain rfl := Sh.some_inj g_8
            exact ⟨rfl, rfl⟩
        intro env
        obtain ⟨b_9, g_9, h⟩ := Sh.bind_some h
        refine WpOps.cutB 3 88 (bA b_9) rfl ?_ ?_
        ·
          refine WpOps.pn 1 rfl trivial ?_
          refine WpOps.split 86 rfl (fun hb => ?_) (fun hb => ?_)
          ·
            replace g_9 := Sh.ite_pos hb g_9
            refine WpOps.pn 2 rfl trivial ?_
            refine WpOps.nil ?_
            obtain rfl := Sh.some_inj g_9
            exact ⟨rfl, rfl⟩
          ·
            replace g_9 := Sh.ite_neg hb g_9
            refine WpOps.pn 2 rfl trivial ?_
            refine WpOps.nil ?_
            obtain rfl := Sh.some_inj g_9
            exact ⟨rfl, rfl⟩
        intro env
        refine WpOps.nil ?_
        refine WpC.condB rfl (fun hb => ?_) (fun hb => ?_)
        ·
          replace h := Sh.ite_pos hb h
          refine WpC.seqR ?_
          obtain ⟨c_11, h⟩ := Sh.chk_some h
          refine WpOps.pn 3 rfl c_11 ?_
          refine WpOps.nil ?_
          refine WpC.exitD ?_
          obtain rfl := Sh.some_inj h
          exact ⟨_, (Heap.le_refl _), (n_1 + (2 : Int)), (), rfl, ⟨rfl, rfl, rfl, trivial⟩, hH⟩
        ·
          replace h := Sh.ite_neg hb h
          refine WpC.skipD ?_
          refine ⟨_, Heap.le_refl _, ?_⟩
          refine WpC.seq ?_
          refine WpC.seqR ?_
          obtain ⟨r_3, hr_3, h⟩ := Sh.bind_some h
          refine WpOps.pn 1 rfl trivial ?_
          refine WpOps.consE (v := (bA r_3)) rfl rfl (Exact.call rfl rfl rfl (w_emendref03_letter hr_3)) ?_
          refine WpOps.pn 1 rfl trivial ?_
          obtain ⟨b_10, g_10, h⟩ := Sh.bind_some h
          refine WpOps.cutB 5 98 (bA b_10) rfl ?_ ?_
          ·
            refine WpOps.pn 1 rfl trivial ?_
            refine WpOps.split 94 rfl (fun hb => ?_) (fun hb => ?_)
            ·
              replace g_10 := Sh.ite_pos hb g_10
              obtain ⟨r_4, hr_4, g_10⟩ := Sh.bind_some g_10
              refine WpOps.pn 1 rfl trivial ?_
              refine WpOps.consE (v := (bA r_4)) rfl rfl (Exact.call rfl rfl rfl (w_emendref03_digit hr_4)) ?_
              refine WpOps.pn 2 rfl trivial ?_
              refine WpOps.nil ?_
              obtain rfl := Sh.some_inj g_10
              exact ⟨rfl, rfl⟩
            ·
              replace g_10 := Sh.ite_neg hb g_10
              refine WpOps.pn 4 rfl trivial ?_
              refine WpOps.nil ?_
              obtain rfl := Sh.some_inj g_10
              exact ⟨rfl, rfl⟩
          intro env
          obtain ⟨b_11, g_11, h⟩ := Sh.bind_some h
          refine WpOps.cutB 4 102 (bA b_11) rfl ?_ ?_
          ·
            refine WpOps.pn 1 rfl trivial ?_
            refine WpOps.split 99 rfl (fun hb => ?_) (fun hb => ?_)
            ·
              replace g_11 := Sh.ite_pos hb g_11
              refine WpOps.pn 3 rfl trivial ?_
              refine WpOps.nil ?_
              obtain rfl := Sh.some_inj g_11
              exact ⟨rfl, rfl⟩
            ·
              replace g_11 := Sh.ite_neg hb g_11
              refine WpOps.pn 3 rfl trivial ?_
              refine WpOps.nil ?_
              obtain rfl := Sh.some_inj g_11
              exact ⟨rfl, rfl⟩
          intro env
          refine WpOps.nil ?_
          refine WpC.condB rfl (fun hb => ?_) (fun hb => ?_)
          ·
            replace h := Sh.ite_pos hb h
            obtain rfl := Sh.some_inj h
            have e := hd_1 _ rfl
            subst e
            refine WpC.exit ?_
            exact ⟨(n_1, ()), ⟨rfl, trivial⟩, hk_1, hH⟩
          ·
            replace h := Sh.ite_neg hb h
            refine WpC.skipD ?_
            refine ⟨_, Heap.le_refl _, ?_⟩
            refine WpC.regionD ?_
            obtain ⟨c_12, h⟩ := Sh.chk_some h
            refine WpOps.pn 3 rfl c_12 ?_
            refine WpOps.nil ?_
            obtain rfl := Sh.some_inj h
            exact ⟨_, (Heap.le_refl _), (n_1 + (1 : Int)), (), rfl, ⟨rfl, rfl, rfl, trivial⟩, hH⟩
      ·
        replace h := Sh.ite_neg hb h
        obtain rfl := Sh.some_inj h
        have e := hd_1 _ rfl
        subst e
        refine WpC.exit ?_
        exact ⟨(n_1, ()), ⟨rfl, trivial⟩, hk_1, hH⟩
    ·
      rintro ⟨n_2, _⟩ env H' ⟨h, hH⟩
      try dsimp only at h
      refine WpC.seqR ?_
      refine WpOps.pn 2 rfl trivial ?_
      refine WpOps.nil ?_
      obtain rfl := Sh.some_inj h
      refine WpC.ret ?_
      exact VEnds.ret1 rfl rfl ⟨rfl, hH⟩

theorem w_emendref03_quoted {H0 : Heap} {s_1 : List UInt8} {i_1 : Int} {quote_1 : UInt8} {r : Int} (h : emendref03_quoted s_1 i_1 quote_1 = some r) : TCall Tryd.prog 69 [(sA s_1), (iA i_1), (u8A quote_1)] H0 (fun v H' => v = (iA r) ∧ H' = H0) noE := by
  refine id (TCall.body Tryd.func69 rfl rfl ?_)
  have hH : Holds H0 [] H0 := rfl
  refine WpC.seqR ?_
  refine WpOps.pn 1 rfl trivial ?_
  refine WpOps.nil ?_
  refine WpC.seq ?_
  refine WpC.seqR ?_
  obtain ⟨ch_1, hch_1, h⟩ := Sh.bind_some h
  refine WpOps.pn 2 rfl trivial ?_
  refine WpOps.consE (v := (u8A ch_1)) rfl rfl (Exact.ixs hch_1 rfl rfl rfl rfl) ?_
  refine WpOps.pn 2 rfl trivial ?_
  refine WpOps.nil ?_
  refine WpC.condB rfl (fun hb => ?_) (fun hb => ?_)
  ·
    replace h := Sh.ite_pos hb h
    refine WpC.seqR ?_
    refine WpOps.pn 1 rfl trivial ?_
    refine WpOps.nil ?_
    obtain rfl := Sh.some_inj h
    refine WpC.ret ?_
    exact VEnds.ret1 rfl rfl ⟨rfl, hH⟩
  ·
    replace h := Sh.ite_neg hb h
    refine WpC.skipD ?_
    refine ⟨_, Heap.le_refl _, ?_⟩
    refine WpC.seqR ?_
    refine WpOps.pn 1 rfl trivial ?_
    refine WpOps.nil ?_
    refine WpC.seqB (fun x : (Unit) × (Unit) => []) (fun x H' => emendref03_quoted_j1 x.1 = some r ∧ Holds H0 [] H') ?_ ?_
    ·
      obtain ⟨o_1, ho_1, hk_1⟩ := Sh.bind_some h
      refine WpC.loopS (emendref03_quoted_b2 s_1 i_1 quote_1) (fun (s : Int) (a : Unit) => [(0, (sA s_1)), (1, (iA i_1)), (2, (u8A quote_1)), (7, (iA s))]) (fun (s : Int) (a : Unit) H' => Holds H0 [] H') o_1 (1 : Int) () ho_1 ⟨rfl, rfl, rfl, rfl, trivial⟩ hH ?_
      rintro n_1 _ st_1 env H' h hd_1 hH
      refine WpC.seq ?_
      refine WpC.seqR ?_
      obtain ⟨c_1, h⟩ := Sh.chk_some h
      refine WpOps.pn 6 rfl c_1 ?_
      obtain ⟨b_1, g_1, h⟩ := Sh.bind_some h
      refine WpOps.cutB 8 26 (bA b_1) rfl ?_ ?_
      ·
        refine WpOps.pn 1 rfl trivial ?_
        refine WpOps.split 19 rfl (fun hb => ?_) (fun hb => ?_)
        ·
          replace g_1 := Sh.ite_pos hb g_1
          obtain ⟨c_2, g_1⟩ := Sh.chk_some g_1
          obtain ⟨ch_2, hch_2, g_1⟩ := Sh.bind_some g_1
          refine WpOps.pn 4 rfl c_2 ?_
          refine WpOps.consE (v := (u8A ch_2)) rfl rfl (Exact.ixs hch_2 rfl rfl rfl rfl) ?_
          refine WpOps.pn 2 rfl trivial ?_
          refine WpOps.nil ?_
          obtain rfl := Sh.some_inj g_1
          exact ⟨rfl, rfl⟩
        ·
          replace g_1 := Sh.ite_neg hb g_1
          refine WpOps.pn 7 rfl trivial ?_
          refine WpOps.nil ?_
          obtain rfl := Sh.some_inj g_1
          exact ⟨rfl, rfl⟩
      intro env
      refine WpOps.nil ?_
      refine WpC.condB rfl (fun hb => ?_) (fun hb => ?_)
      ·
        replace h := Sh.ite_pos hb h
        refine WpC.skipD ?_
        refine ⟨_, Heap.le_refl _, ?_⟩
        refine WpC.block ?_
        refine WpC.seq ?_
        refine WpC.seqR ?_
        obtain ⟨c_3, h⟩ := Sh.chk_some h
        obtain ⟨ch_3, hch_3, h⟩ := Sh.bind_some h
        refine WpOps.pn 4 rfl c_3 ?_
        refine WpOps.consE (v := (u8A ch_3)) rfl rfl (Exact.ixs hch_3 rfl rfl rfl rfl) ?_
        refine WpOps.pn 2 rfl trivial ?_
        refine WpOps.nil ?_
        refine WpC.condB rfl (fun hb => ?_) (fun hb => ?_)
        ·
          replace h := Sh.ite_pos hb h
          refine WpC.seq ?_
          refine WpC.seqR ?_
          refine WpOps.pn 2 rfl trivial ?_
          obtain ⟨b_2, g_2, h⟩ := Sh.bind_some h
          refine WpOps.cutB 4 39 (bA b_2) rfl ?_ ?_
          ·
            refine WpOps.pn 1 rfl trivial ?_
            refine WpOps.split 36 rfl (fun hb => ?_) (fun hb => ?_)
            ·
              replace g_2 := Sh.ite_pos hb g_2
              refine WpOps.pn 3 rfl trivial ?_
              refine WpOps.nil ?_
              obtain rfl := Sh.some_inj g_2
              exact ⟨rfl, rfl⟩
            ·
              replace g_2 := Sh.ite_neg hb g_2
              refine WpOps.pn 3 rfl trivial ?_
              refine WpOps.nil ?_
              obtain rfl := Sh.some_inj g_2
              exact ⟨rfl, rfl⟩
          intro env
          refine WpOps.nil ?_
          refine WpC.condB rfl (fun hb => ?_) (fun hb => ?_)
          ·
            replace h := Sh.ite_pos hb h
            refine WpC.seqR ?_
            refine WpOps.pn 1 rfl trivial ?_
            refine WpOps.nil ?_
            obtain rfl := Sh.some_inj h
            have e := hd_1 _ rfl
            subst e
            have h := hk_1
            obtain rfl := Sh.some_inj h
            refine WpC.ret ?_
            exact VEnds.ret1 rfl rfl ⟨rfl, hH⟩
          ·
            replace h := Sh.ite_neg hb h
            refine WpC.skipD ?_
            refine ⟨_, Heap.le_refl _, ?_⟩
            refine WpC.seqR ?_
            obtain ⟨c_4, h⟩ := Sh.chk_some h
            refine WpOps.pn 3 rfl c_4 ?_
            refine WpOps.nil ?_
            obtain rfl := Sh.some_inj h
            have e := hd_1 _ rfl
            subst e
            have h := hk_1
            obtain rfl := Sh.some_inj h
            refine WpC.ret ?_
            exact VEnds.ret1 rfl rfl ⟨rfl, hH⟩
        ·
          replace h := Sh.ite_neg hb h
          refine WpC.skipD ?_
          refine ⟨_, Heap.le_refl _, ?_⟩
          refine WpC.seq ?_
          refine WpC.seqR ?_
          obtain ⟨c_5, h⟩ := Sh.chk_some h
          obtain ⟨ch_4, hch_4, h⟩ := Sh.bind_some h
          refine WpOps.pn 4 rfl c_5 ?_
          refine WpOps.consE (v := (u8A ch_4)) rfl rfl (Exact.ixs hch_4 rfl rfl rfl rfl) ?_
          refine WpOps.pn 1 rfl trivial ?_
          refine WpOps.nil ?_
          refine WpC.condB rfl (fun hb => ?_) (fun hb => ?_)
          ·
            replace h := Sh.ite_pos hb h
            refine WpC.seqR ?_
            obtain ⟨c_6, h⟩ := Sh.chk_some h
            refine WpOps.pn 3 rfl c_6 ?_
            refine WpOps.nil ?_
            refine WpC.seqR ?_
            obtain ⟨c_7, h⟩ := Sh.chk_some h
            refine WpOps.pn 6 rfl c_7 ?_
            obtain ⟨b_3, g_3, h⟩ := Sh.bind_some h
            refine WpOps.cutB 8 63 (bA b_3) rfl ?_ ?_
            ·
              refine WpOps.pn 1 rfl trivial ?_
              refine WpOps.split 56 rfl (fun hb => ?_) (fun hb => ?_)
              ·
                replace g_3 := Sh.ite_pos hb g_3
                refine WpOps.pn 7 rfl trivial ?_
                refine WpOps.nil ?_
                obtain rfl := Sh.some_inj g_3
                exact ⟨rfl, rfl⟩
              ·
                replace g_3 := Sh.ite_neg hb g_3
                obtain ⟨c_8, g_3⟩ := Sh.chk_some g_3
                obtain ⟨ch_5, hch_5, g_3⟩ := Sh.bind_some g_3
                refine WpOps.pn 4 rfl c_8 ?_
                refine WpOps.consE (v := (u8A ch_5)) rfl rfl (Exact.ixs hch_5 rfl rfl rfl rfl) ?_
                refine WpOps.pn 2 rfl trivial ?_
                refine WpOps.nil ?_
                obtain rfl := Sh.some_inj g_3
                exact ⟨rfl, rfl⟩
            intro env
            refine WpOps.nil ?_
            refine WpC.condB rfl (fun hb => ?_) (fun hb => ?_)
            ·
              replace h := Sh.ite_pos hb h
              refine WpC.seqR ?_
              refine WpOps.pn 1 rfl trivial ?_
              refine WpOps.nil ?_
              obtain rfl := Sh.some_inj h
              have e := hd_1 _ rfl
              subst e
              have h := hk_1
              obtain rfl := Sh.some_inj h
              refine WpC.ret ?_
              exact VEnds.ret1 rfl rfl ⟨rfl, hH⟩
            ·
              replace h := Sh.ite_neg hb h
              refine WpC.skipD ?_
              refine ⟨_, Heap.le_refl _, ?_⟩
              refine WpC.regionD ?_
              obtain ⟨c_9, h⟩ := Sh.chk_some h
              refine WpOps.pn 3 rfl c_9 ?_
              refine WpOps.nil ?_
              obtain rfl := Sh.some_inj h
              exact ⟨_, (Heap.le_refl _), ((n_1 + (1 : Int)) + (1 : Int)), (), rfl, ⟨rfl, rfl, rfl, rfl, trivial⟩, hH⟩
          ·
            replace h := Sh.ite_neg hb h
            refine WpC.skipD ?_
            refine ⟨_, Heap.le_refl _, ?_⟩
            refine WpC.regionD ?_
            obtain ⟨c_10, h⟩ := Sh.chk_some h
            refine WpOps.pn 3 rfl c_10 ?_
            refine WpOps.nil ?_
            obtain rfl := Sh.some_inj h
            exact ⟨_, (Heap.le_refl _), (n_1 + (1 : Int)), (), rfl, ⟨rfl, rfl, rfl, rfl, trivial⟩, hH⟩
      ·
        replace h := Sh.ite_neg hb h
        obtain rfl := Sh.some_inj h
        have e := hd_1 _ rfl
        subst e
        refine WpC.exit ?_
        exact ⟨((), ()), trivial, hk_1, hH⟩
    ·
      rintro ⟨_, _⟩ env H' ⟨h, hH⟩
      try dsimp only at h
      refine WpC.seqR ?_
      refine WpOps.pn 1 rfl trivial ?_
      refine WpOps.nil ?_
      obtain rfl := Sh.some_inj h
      refine WpC.ret ?_
      exact VEnds.ret1 rfl rfl ⟨rfl, hH⟩

theorem w_emendref03_sign {H0 : Heap} {s_1 : List UInt8} {i_1 : Int} {r : Int} (h : emendref03_sign s_1 i_1 = some r) : TCall Tryd.prog 70 [(sA s_1), (iA i_1)] H0 (fun v H' => v = (iA r) ∧ H' = H0) noE := by
  refine id (TCall.body Tryd.func70 rfl rfl ?_)
  have hH : Holds H0 [] H0 := rfl
  refine WpC.seqR ?_
  refine WpOps.pn 1 rfl trivial ?_
  refine WpOps.nil ?_
  refine WpC.seqR ?_
  refine WpOps.consE (v := (AV.rows 1 (List.map cS ([([46, 46, 46] : List UInt8), ([60, 60, 61] : List UInt8), ([62, 62, 61] : List UInt8)] : List (List UInt8))))) rfl rfl (Exact.litSlice rfl (by kernel_rfl)) ?_
  refine WpOps.pn 1 rfl trivial ?_
  refine WpOps.nil ?_
  refine WpC.seqR ?_
  refine WpOps.consE (v := (AV.rows 1 (List.map cS emendref03_sign_l0))) rfl rfl (Exact.litSlice rfl (by kernel_rfl)) ?_
  refine WpOps.pn 1 rfl trivial ?_
  refine WpOps.nil ?_
  refine WpC.seqR ?_
  refine WpOps.pn 1 rfl trivial ?_
  refine WpOps.nil ?_
  refine WpC.seq ?_
  refine WpC.seqR ?_
  refine WpOps.pn 1 rfl trivial ?_
  refine WpOps.nil ?_
  refine WpC.blockK (fun x : (Unit) × (Unit) => [(0, (sA s_1)), (1, (iA i_1)), (6, (AV.rows 1 (List.map cS emendref03_sign_l0))), (7, (sA emendref03_sign_l1))]) (fun x H' => (emendref03_sign_j1 s_1 i_1) x.1 = some r ∧ Holds H0 [] H') ?_ ?_
  ·
    obtain ⟨o_1, ho_1, hk_1⟩ := Sh.bind_some h
    refine WpC.loopS (emendref03_sign_b2 s_1 i_1) (fun (s : Int) (a : Unit) => [(0, (sA s_1)), (1, (iA i_1)), (5, (AV.rows 1 (List.map cS ([([46, 46, 46] : List UInt8), ([60, 60, 61] : List UInt8), ([62, 62, 61] : List UInt8)] : List (List UInt8))))), (6, (AV.rows 1 (List.map cS emendref03_sign_l0))), (7, (sA emendref03_sign_l1)), (8, (iA s))]) (fun (s : Int) (a : Unit) H' => Holds H0 [] H') o_1 (0 : Int) () ho_1 ⟨rfl, rfl, rfl, rfl, rfl, rfl, trivial⟩ hH ?_
    rintro k_1 _ st_1 env H' h hd_1 hH
    refine WpC.seq ?_
    refine WpC.seqR ?_
    refine WpOps.pn 3 rfl trivial ?_
    refine WpOps.at 17 (len_map _ _) ?_
    refine WpOps.pn 1 rfl trivial ?_
    refine WpOps.nil ?_
    refine WpC.condB rfl (fun hb => ?_) (fun hb => ?_)
    ·
      replace h := Sh.ite_pos hb h
      refine WpC.skipD ?_
      refine ⟨_, Heap.le_refl _, ?_⟩
      refine WpC.seq ?_
      refine WpC.block ?_
      refine WpC.seqR ?_
      obtain ⟨y_1, hy_1, h⟩ := Sh.bind_some h
      refine WpOps.pn 4 rfl trivial ?_
      refine WpOps.consE (v := (.rop (cS y_1))) rfl rfl (Exact.ixr cS hy_1 rfl rfl rfl rfl (by kernel_rfl) (by decide)) ?_
      refine WpOps.consE (v := (sA y_1)) rfl rfl (Exact.load_rop rfl rfl rfl) ?_
      obtain ⟨r_1, hr_1, h⟩ := Sh.bind_some h
      refine WpOps.consE (v := (bA r_1)) rfl rfl (Exact.call rfl rfl rfl (w_emendref03_is hr_1)) ?_
      refine WpOps.pn 1 rfl trivial ?_
      refine WpOps.nil ?_
      refine WpC.seqR ?_
      refine WpOps.pn 1 rfl trivial ?_
      refine WpOps.nil ?_
      refine WpC.condB rfl (fun hb => ?_) (fun hb => ?_)
      ·
        replace h := Sh.ite_pos hb h
        refine WpC.seqR ?_
        refine WpOps.pn 1 rfl trivial ?_
        refine WpOps.nil ?_
        obtain rfl := Sh.some_inj h
        have e := hd_1 _ rfl
        subst e
        have h := hk_1
        obtain rfl := Sh.some_inj h
        refine WpC.ret ?_
        exact VEnds.ret1 rfl rfl ⟨rfl, hH⟩
      ·
        replace h := Sh.ite_neg hb h
        refine WpC.skipD ?_
        refine ⟨_, Heap.le_refl _, ?_⟩
        refine WpC.regionD ?_
        obtain ⟨c_1, h⟩ := Sh.chk_some h
        refine WpOps.pn 3 rfl c_1 ?_
        refine WpOps.nil ?_
        obtain rfl := Sh.some_inj h
        exact ⟨_, (Heap.le_refl _), (k_1 + (1 : Int)), (), rfl, ⟨rfl, rfl, rfl, rfl, rfl, rfl, trivial⟩, hH⟩
    ·
      replace h := Sh.ite_neg hb h
      obtain rfl := Sh.some_inj h
      have e := hd_1 _ rfl
      subst e
      refine WpC.exit ?_
      exact ⟨((), ()), ⟨rfl, rfl, rfl, rfl, trivial⟩, hk_1, hH⟩
  ·
    rintro ⟨_, _⟩ env H' ⟨h, hH⟩
    try dsimp only at h
    refine ⟨_, Heap.le_refl _, ?_⟩
    refine WpC.seq ?_
    refine WpC.seqR ?_
    refine WpOps.pn 1 rfl trivial ?_
    refine WpOps.nil ?_
    refine WpC.blockK (fun x : (Unit) × (Unit) => [(0, (sA s_1)), (1, (iA i_1)), (7, (sA emendref03_sign_l1))]) (fun x H' => (emendref03_sign_j3 s_1 i_1) x.1 = some r ∧ Holds H0 [] H') ?_ ?_
    ·
      obtain ⟨o_2, ho_2, hk_2⟩ := Sh.bind_some h
      refine WpC.loopS (emendref03_sign_b4 s_1 i_1) (fun (s : Int) (a : Unit) => [(0, (sA s_1)), (1, (iA i_1)), (6, (AV.rows 1 (List.map cS emendref03_sign_l0))), (7, (sA emendref03_sign_l1)), (10, (iA s))]) (fun (s : Int) (a : Unit) H' => Holds H0 [] H') o_2 (0 : Int) () ho_2 ⟨rfl, rfl, rfl, rfl, rfl, trivial⟩ hH ?_
      rintro k_2 _ st_2 env H' h hd_2 hH
      refine WpC.seq ?_
      refine WpC.seqR ?_
      refine WpOps.pn 3 rfl trivial ?_
      refine WpOps.at 31 (len_map _ _) ?_
      refine WpOps.pn 1 rfl trivial ?_
      refine WpOps.nil ?_
      refine WpC.condB rfl (fun hb => ?_) (fun hb => ?_)
      ·
        replace h := Sh.ite_pos hb h
        refine WpC.skipD ?_
        refine ⟨_, Heap.le_refl _, ?_⟩
        refine WpC.seq ?_
        refine WpC.block ?_
        refine WpC.seqR ?_
        obtain ⟨y_2, hy_2, h⟩ := Sh.bind_some h
        refine WpOps.pn 4 rfl trivial ?_
        refine WpOps.consE (v := (.rop (cS y_2))) rfl rfl (Exact.ixr cS hy_2 rfl rfl rfl rfl (by kernel_rfl) (by decide)) ?_
        refine WpOps.consE (v := (sA y_2)) rfl rfl (Exact.load_rop rfl rfl rfl) ?_
        obtain ⟨r_2, hr_2, h⟩ := Sh.bind_some h
        refine WpOps.consE (v := (bA r_2)) rfl rfl (Exact.call rfl rfl rfl (w_emendref03_is hr_2)) ?_
        refine WpOps.pn 1 rfl trivial ?_
        refine WpOps.nil ?_
        refine WpC.seqR ?_
        refine WpOps.pn 1 rfl trivial ?_
        refine WpOps.nil ?_
        refine WpC.condB rfl (fun hb => ?_) (fun hb => ?_)
        ·
          replace h := Sh.ite_pos hb h
          refine WpC.seqR ?_
          refine WpOps.pn 1 rfl trivial ?_
          refine WpOps.nil ?_
          obtain rfl := Sh.some_inj h
          have e := hd_2 _ rfl
          subst e
          have h := hk_2
          obtain rfl := Sh.some_inj h
          refine WpC.ret ?_
          exact VEnds.ret1 rfl rfl ⟨rfl, hH⟩
        ·
          replace h := Sh.ite_neg hb h
          refine WpC.skipD ?_
          refine ⟨_, Heap.le_refl _, ?_⟩
          refine WpC.regionD ?_
          obtain ⟨c_2, h⟩ := Sh.chk_some h
          refine WpOps.pn 3 rfl c_2 ?_
          refine WpOps.nil ?_
          obtain rfl := Sh.some_inj h
          exact ⟨_, (Heap.le_refl _), (k_2 + (1 : Int)), (), rfl, ⟨rfl, rfl, rfl, rfl, rfl, trivial⟩, hH⟩
      ·
        replace h := Sh.ite_neg hb h
        obtain rfl := Sh.some_inj h
        have e := hd_2 _ rfl
        subst e
        refine WpC.exit ?_
        exact ⟨((), ()), ⟨rfl, rfl, rfl, trivial⟩, hk_2, hH⟩
    ·
      rintro ⟨_, _⟩ env H' ⟨h, hH⟩
      try dsimp only at h
      refine ⟨_, Heap.le_refl _, ?_⟩
      refine WpC.seq ?_
      refine WpC.seqR ?_
      refine WpOps.pn 1 rfl trivial ?_
      refine WpOps.nil ?_
      refine WpC.blockK (fun x : (Unit) × (Unit) => []) (fun x H' => emendref03_sign_j5 x.1 = some r ∧ Holds H0 [] H') ?_ ?_
      ·
        obtain ⟨o_3, ho_3, hk_3⟩ := Sh.bind_some h
        refine WpC.loopS (emendref03_sign_b6 s_1 i_1) (fun (s : Int) (a : Unit) => [(0, (sA s_1)), (1, (iA i_1)), (7, (sA emendref03_sign_l1)), (12, (iA s))]) (fun (s : Int) (a : Unit) H' => Holds H0 [] H') o_3 (0 : Int) () ho_3 ⟨rfl, rfl, rfl, rfl, trivial⟩ hH ?_
        rintro k_3 _ st_3 env H' h hd_3 hH
        refine WpC.seq ?_
        refine WpC.seqR ?_
        refine WpOps.pn 4 rfl trivial ?_
        refine WpOps.nil ?_
        refine WpC.condB rfl (fun hb => ?_) (fun hb => ?_)
        ·
          replace h := Sh.ite_pos hb h
          refine WpC.skipD ?_
          refine ⟨_, Heap.le_refl _, ?_⟩
          refine WpC.seq ?_
          refine WpC.block ?_
          refine WpC.seqD [] [0, 1, 2, 3, 4, 5, 6] (by kernel_rfl) (by kernel_rfl) ?_
          obtain ⟨ch_1, hch_1, h⟩ := Sh.bind_some h
          refine WpPi.pn 2 rfl trivial ?_
          refine WpPi.consI (v := (u8A ch_1)) rfl rfl rfl rfl (fun _ => Exact.ixs hch_1 rfl rfl rfl rfl) ?_
          obtain ⟨ch_2, hch_2, h⟩ := Sh.bind_some h
          refine WpPi.pn 2 rfl trivial ?_
          refine WpPi.consI (v := (u8A ch_2)) rfl rfl rfl rfl (fun _ => Exact.ixs hch_2 rfl rfl rfl rfl) ?_
          refine WpPi.pn 1 rfl trivial ?_
          refine WpPi.nil ?_
          refine WpC.condB rfl (fun hb => ?_) (fun hb => ?_)
          ·
            replace h := Sh.ite_pos hb h
            refine WpC.seqR ?_
            refine WpOps.pn 1 rfl trivial ?_
            refine WpOps.nil ?_
            obtain rfl := Sh.some_inj h
            have e := hd_3 _ rfl
            subst e
            have h := hk_3
            obtain rfl := Sh.some_inj h
            refine WpC.ret ?_
            exact VEnds.ret1 rfl rfl ⟨rfl, hH⟩
          ·
            replace h := Sh.ite_neg hb h
            refine WpC.skipD ?_
            refine ⟨_, Heap.le_refl _, ?_⟩
            refine WpC.regionD ?_
            obtain ⟨c_3, h⟩ := Sh.chk_some h
            refine WpOps.pn 3 rfl c_3 ?_
            refine WpOps.nil ?_
            obtain rfl := Sh.some_inj h
            exact ⟨_, (Heap.le_refl _), (k_3 + (1 : Int)), (), rfl, ⟨rfl, rfl, rfl, rfl, trivial⟩, hH⟩
        ·
          replace h := Sh.ite_neg hb h
          obtain rfl := Sh.some_inj h
          have e := hd_3 _ rfl
          subst e
          refine WpC.exit ?_
          exact ⟨((), ()), trivial, hk_3, hH⟩
      ·
        rintro ⟨_, _⟩ env H' ⟨h, hH⟩
        try dsimp only at h
        refine ⟨_, Heap.le_refl _, ?_⟩
        refine WpC.seqR ?_
        refine WpOps.pn 1 rfl trivial ?_
        refine WpOps.nil ?_
        obtain rfl := Sh.some_inj h
        refine WpC.ret ?_
        exact VEnds.ret1 rfl rfl ⟨rfl, hH⟩

theorem w_emendref03_next {H0 : Heap} {s_1 : List UInt8} {i_1 : Int} {r : Int × Int} (h : emendref03_next s_1 i_1 = some r) : TCall Tryd.prog 51 [(sA s_1), (iA i_1)] H0 (fun v H' => v = (.tup [(iA r.1), (iA r.2)]) ∧ H' = H0) noE := by
  refine id (TCall.body Tryd.func51 rfl rfl ?_)
  have hH : Holds H0 [] H0 := rfl
  refine WpC.seqR ?_
  refine WpOps.pn 2 rfl trivial ?_
  refine WpOps.nil ?_
  refine WpC.seq ?_
  refine WpC.seqR ?_
  obtain ⟨ch_1, hch_1, h⟩ := Sh.bind_some h
  refine WpOps.pn 2 rfl trivial ?_
  refine WpOps.consE (v := (u8A ch_1)) rfl rfl (Exact.ixs hch_1 rfl rfl rfl rfl) ?_
  refine WpOps.pn 1 rfl trivial ?_
  refine WpOps.nil ?_
  refine WpC.condB rfl (fun hb => ?_) (fun hb => ?_)
  ·
    replace h := Sh.ite_pos hb h
    refine WpC.seqR ?_
    refine WpOps.pn 2 rfl trivial ?_
    refine WpOps.nil ?_
    obtain rfl := Sh.some_inj h
    refine WpC.ret ?_
    exact VEnds.ret2 rfl rfl rfl ⟨rfl, hH⟩
  ·
    replace h := Sh.ite_neg hb h
    refine WpC.skipD ?_
    refine ⟨_, Heap.le_refl _, ?_⟩
    refine WpC.seqR ?_
    obtain ⟨r_1, hr_1, h⟩ := Sh.bind_some h
    refine WpOps.pn 2 rfl trivial ?_
    refine WpOps.consE (v := (iA r_1)) rfl rfl (Exact.call rfl rfl rfl (w_emendref03_word hr_1)) ?_
    refine WpOps.pn 1 rfl trivial ?_
    refine WpOps.nil ?_
    refine WpC.seq ?_
    refine WpC.seqR ?_
    refine WpOps.pn 2 rfl trivial ?_
    refine WpOps.nil ?_
    refine WpC.condB rfl (fun hb => ?_) (fun hb => ?_)
    ·
      replace h := Sh.ite_pos hb h
      refine WpC.seqR ?_
      refine WpOps.pn 3 rfl trivial ?_
      refine WpOps.nil ?_
      obtain rfl := Sh.some_inj h
      refine WpC.ret ?_
      exact VEnds.ret2 rfl rfl rfl ⟨rfl, hH⟩
    ·
      replace h := Sh.ite_neg hb h
      refine WpC.skipD ?_
      refine ⟨_, Heap.le_refl _, ?_⟩
      refine WpC.seqR ?_
      obtain ⟨r_2, hr_2, h⟩ := Sh.bind_some h
      refine WpOps.pn 2 rfl trivial ?_
      refine WpOps.consE (v := (iA r_2)) rfl rfl (Exact.call rfl rfl rfl (w_emendref03_number hr_2)) ?_
      refine WpOps.pn 1 rfl trivial ?_
      refine WpOps.nil ?_
      refine WpC.seq ?_
      refine WpC.seqR ?_
      refine WpOps.pn 2 rfl trivial ?_
      refine WpOps.nil ?_
      refine WpC.condB rfl (fun hb => ?_) (fun hb => ?_)
      ·
        replace h := Sh.ite_pos hb h
        refine WpC.seqR ?_
        refine WpOps.pn 3 rfl trivial ?_
        refine WpOps.nil ?_
        obtain rfl := Sh.some_inj h
        refine WpC.ret ?_
        exact VEnds.ret2 rfl rfl rfl ⟨rfl, hH⟩
      ·
        replace h := Sh.ite_neg hb h
        refine WpC.skipD ?_
        refine ⟨_, Heap.le_refl _, ?_⟩
        refine WpC.seqR ?_
        obtain ⟨r_3, hr_3, h⟩ := Sh.bind_some h
        refine WpOps.pn 2 rfl trivial ?_
        refine WpOps.consE (v := (iA r_3)) rfl rfl (Exact.call rfl rfl rfl (w_emendref03_quoted hr_3)) ?_
        refine WpOps.pn 1 rfl trivial ?_
        refine WpOps.nil ?_
        refine WpC.seq ?_
        refine WpC.seqR ?_
        refine WpOps.pn 2 rfl trivial ?_
        refine WpOps.nil ?_
        refine WpC.condB rfl (fun hb => ?_) (fun hb => ?_)
        ·
          replace h := Sh.ite_pos hb h
          refine WpC.seqR ?_
          refine WpOps.pn 3 rfl trivial ?_
          refine WpOps.nil ?_
          obtain rfl := Sh.some_inj h
          refine WpC.ret ?_
          exact VEnds.ret2 rfl rfl rfl ⟨rfl, hH⟩
        ·
          replace h := Sh.ite_neg hb h
          refine WpC.skipD ?_
          refine ⟨_, Heap.le_refl _, ?_⟩
          refine WpC.seqR ?_
          obtain ⟨r_4, hr_4, h⟩ := Sh.bind_some h
          refine WpOps.pn 2 rfl trivial ?_
          refine WpOps.consE (v := (iA r_4)) rfl rfl (Exact.call rfl rfl rfl (w_emendref03_quoted hr_4)) ?_
          refine WpOps.pn 1 rfl trivial ?_
          refine WpOps.nil ?_
          refine WpC.seq ?_
          refine WpC.seqR ?_
          refine WpOps.pn 2 rfl trivial ?_
          refine WpOps.nil ?_
          refine WpC.condB rfl (fun hb => ?_) (fun hb => ?_)
          ·
            replace h := Sh.ite_pos hb h
            refine WpC.seqR ?_
            refine WpOps.pn 3 rfl trivial ?_
            refine WpOps.nil ?_
            obtain rfl := Sh.some_inj h
            refine WpC.ret ?_
            exact VEnds.ret2 rfl rfl rfl ⟨rfl, hH⟩
          ·
            replace h := Sh.ite_neg hb h
            refine WpC.skipD ?_
            refine ⟨_, Heap.le_refl _, ?_⟩
            refine WpC.seqR ?_
            obtain ⟨r_5, hr_5, h⟩ := Sh.bind_some h
            refine WpOps.pn 2 rfl trivial ?_
            refine WpOps.consE (v := (iA r_5)) rfl rfl (Exact.call rfl rfl rfl (w_emendref03_sign hr_5)) ?_
            refine WpOps.pn 1 rfl trivial ?_
            refine WpOps.nil ?_
            refine WpC.seq ?_
            refine WpC.seqR ?_
            refine WpOps.pn 2 rfl trivial ?_
            refine WpOps.nil ?_
            refine WpC.condB rfl (fun hb => ?_) (fun hb => ?_)
            ·
              replace h := Sh.ite_pos hb h
              refine WpC.seqR ?_
              refine WpOps.pn 3 rfl trivial ?_
              refine WpOps.nil ?_
              obtain rfl := Sh.some_inj h
              refine WpC.ret ?_
              exact VEnds.ret2 rfl rfl rfl ⟨rfl, hH⟩
            ·
              replace h := Sh.ite_neg hb h
              refine WpC.skipD ?_
              refine ⟨_, Heap.le_refl _, ?_⟩
              refine WpC.seqR ?_
              refine WpOps.pn 2 rfl trivial ?_
              refine WpOps.nil ?_
              obtain rfl := Sh.some_inj h
              refine WpC.ret ?_
              exact VEnds.ret2 rfl rfl rfl ⟨rfl, hH⟩

theorem w_emendref03_Tokens {H0 : Heap} {file_1 : Int} {text_1 : List UInt8} {r : List GTok} (h : emendref03_Tokens file_1 text_1 = some r) : TCall Tryd.prog 37 [(iA file_1), (sA text_1)] H0 (fun v H' => v = (AV.rows 6 (List.map cGTok r)) ∧ H' = H0) noE := by
  refine id (TCall.body Tryd.func37 rfl rfl ?_)
  have hH : Holds H0 [] H0 := rfl
  refine WpC.seqR ?_
  refine WpOps.pn 1 rfl trivial ?_
  refine WpOps.nil ?_
  refine WpC.seqR ?_
  obtain ⟨r_1, hr_1, h⟩ := Sh.bind_some h
  refine WpOps.pn 1 rfl trivial ?_
  refine WpOps.consE (v := (AV.rows 2 (List.map cGChar r_1))) rfl rfl (Exact.call rfl rfl rfl (w_emendref02_Join hr_1)) ?_
  refine WpOps.pn 1 rfl trivial ?_
  refine WpOps.nil ?_
  refine WpC.seqR ?_
  obtain ⟨r_2, hr_2, h⟩ := Sh.bind_some h
  refine WpOps.pn 1 rfl trivial ?_
  refine WpOps.consE (v := (sA r_2)) rfl rfl (Exact.call rfl rfl rfl (w_emendref02_Text hr_2)) ?_
  refine WpOps.pn 1 rfl trivial ?_
  refine WpOps.nil ?_
  refine WpC.seqR ?_
  refine WpOps.pn 1 rfl trivial ?_
  have hH := hH.nil 56 6
  refine WpOps.nil ?_
  refine WpC.seqR ?_
  refine WpOps.pn 1 rfl trivial ?_
  refine WpOps.nil ?_
  refine WpC.seqR ?_
  refine WpOps.pn 1 rfl trivial ?_
  refine WpOps.nil ?_
  refine WpC.seqB (fun x : (List GTok) × ((Option (Nat × Nat))) => [(7, (.own (List.map cGTok x.1).length x.2))]) (fun x H' => emendref03_Tokens_j1 x.1 = some r ∧ Holds H0 [.own 56 6 x.2 (List.map cGTok x.1)] H') ?_ ?_
  ·
    obtain ⟨o_1, ho_1, hk_1⟩ := Sh.bind_some h
    refine WpC.loopS (emendref03_Tokens_b2 file_1 r_1 r_2) (fun (s : Int × Bool × List GTok) (a : (Option (Nat × Nat))) => [(0, (iA file_1)), (5, (AV.rows 2 (List.map cGChar r_1))), (6, (sA r_2)), (7, (.own (List.map cGTok s.2.2).length a)), (8, (iA s.1)), (9, (bA s.2.1))]) (fun (s : Int × Bool × List GTok) (a : (Option (Nat × Nat))) H' => Holds H0 [.own 56 6 a (List.map cGTok s.2.2)] H') o_1 ((0 : Int), false, ([] : List GTok)) none ho_1 ⟨rfl, rfl, rfl, rfl, rfl, rfl, trivial⟩ hH ?_
    rintro ⟨i_1, passed_1, out_1⟩ p_1 st_1 env H' h hd_1 hH
    refine WpC.seq ?_
    refine WpC.seqR ?_
    refine WpOps.pn 4 rfl trivial ?_
    refine WpOps.nil ?_
    refine WpC.condB rfl (fun hb => ?_) (fun hb => ?_)
    ·
      replace h := Sh.ite_pos hb h
      refine WpC.skipD ?_
      refine ⟨_, Heap.le_refl _, ?_⟩
      refine WpC.block ?_
      refine WpC.seqR ?_
      obtain ⟨r_3, hr_3, h⟩ := Sh.bind_some h
      refine WpOps.pn 2 rfl trivial ?_
      refine WpOps.consE (v := (iA r_3)) rfl rfl (Exact.call rfl rfl rfl (w_emendref03_blank hr_3)) ?_
      refine WpOps.pn 1 rfl trivial ?_
      refine WpOps.nil ?_
      refine WpC.seq ?_
      refine WpC.seqR ?_
      refine WpOps.pn 3 rfl trivial ?_
      refine WpOps.nil ?_
      refine WpC.condB rfl (fun hb => ?_) (fun hb => ?_)
      ·
        replace h := Sh.ite_pos hb h
        refine WpC.seqR ?_
        refine WpOps.pn 2 rfl trivial ?_
        refine WpOps.nil ?_
        refine WpC.seqR ?_
        refine WpOps.pn 1 rfl trivial ?_
        refine WpOps.nil ?_
        refine WpC.exitD ?_
        obtain rfl := Sh.some_inj h
        exact ⟨_, (Heap.le_refl _), (r_3, true, out_1), p_1, rfl, ⟨rfl, rfl, rfl, rfl, rfl, rfl, trivial⟩, hH⟩
      ·
        replace h := Sh.ite_neg hb h
        refine WpC.skipD ?_
        refine ⟨_, Heap.le_refl _, ?_⟩
        refine WpC.seqR ?_
        obtain ⟨r_4, hr_4, h⟩ := Sh.bind_some h
        refine WpOps.pn 2 rfl trivial ?_
        refine WpOps.consE (v := (.tup [(iA r_4.1), (iA r_4.2)])) rfl rfl (Exact.call rfl rfl rfl (w_emendref03_next hr_4)) ?_
        refine WpOps.pn 5 rfl trivial ?_
        refine WpOps.nil ?_
        refine WpC.seqD [.I, .I, .I, .I, .I, .I, .I, .I, .I, .I, .I, .I, .I, .I, .I, .I, .I, .I, .I, .I, .I, .I, .I, .I, .I, .I, .E] [0, 1, 2, 3, 4, 5, 6, 7, 8, 9, 10, 11, 12, 13, 14, 15, 16, 17, 18, 19, 20, 21, 22, 23, 24, 25, 26, 27] (by kernel_rfl) (by kernel_rfl) ?_
        obtain ⟨c_1, h⟩ := Sh.chk_some h
        obtain ⟨c_2, h⟩ := Sh.chk_some h
        refine WpPi.pn 7 rfl c_1 ?_
        refine WpPi.pn 1 rfl (show 0 ≤ i_1 ∧ 0 ≤ (i_1 + r_4.2) ∧ ((i_1).toNat ≤ ((i_1 + r_4.2)).toNat ∧ ((i_1 + r_4.2)).toNat ≤ r_2.length) from ⟨(by omega), (by omega), (by omega)⟩) ?_
        obtain ⟨y_1, hy_1, h⟩ := Sh.bind_some h
        refine WpPi.pn 3 rfl trivial ?_
        refine WpPi.consI (v := (.rop (cGChar y_1))) rfl rfl rfl rfl (fun _ => Exact.ixr cGChar hy_1 rfl rfl rfl rfl (by kernel_rfl) (by decide)) ?_
        refine WpPi.pn 1 rfl trivial ?_
        refine WpPi.consI (v := (iA y_1.at_)) rfl rfl rfl rfl (fun _ => Exact.load_rop rfl rfl rfl) ?_
        obtain ⟨c_3, h⟩ := Sh.chk_some h
        obtain ⟨c_4, h⟩ := Sh.chk_some h
        obtain ⟨y_2, hy_2, h⟩ := Sh.bind_some h
        refine WpPi.pn 5 rfl ⟨c_4, c_3⟩ ?_
        refine WpPi.consI (v := (.rop (cGChar y_2))) rfl rfl rfl rfl (fun _ => Exact.ixr cGChar hy_2 rfl rfl rfl rfl (by kernel_rfl) (by decide)) ?_
        refine WpPi.pn 1 rfl trivial ?_
        refine WpPi.consI (v := (iA y_2.at_)) rfl rfl rfl rfl (fun _ => Exact.load_rop rfl rfl rfl) ?_
        obtain ⟨c_5, h⟩ := Sh.chk_some h
        refine WpPi.pn 3 rfl c_5 ?_
        refine WpPi.consI (v := (AV.rows 6 (List.map cGTok ([(GTok.mk r_4.1 ((r_2.drop (i_1).toNat).take (((i_1 + r_4.2)).toNat - (i_1).toNat)) file_1 y_1.at_ (y_2.at_ + (1 : Int)) passed_1)] : List GTok)))) rfl rfl rfl rfl (fun _ => Exact.litSlice rfl (by kernel_rfl)) ?_
        obtain ⟨c_6, h⟩ := Sh.chk_some h
        refine WpPi.consE rfl rfl rfl rfl (WpO.pushT cGTok out_1 ([(GTok.mk r_4.1 ((r_2.drop (i_1).toNat).take (((i_1 + r_4.2)).toNat - (i_1).toNat)) file_1 y_1.at_ (y_2.at_ + (1 : Int)) passed_1)] : List GTok) (i := 0) rfl ek45 hH rfl rfl rfl (.rows _) (fun y _ => one_cGTok y) (by simp) c_6 (by decide) fun p_2 H' hH => ?_)
        refine WpPi.pn 1 rfl trivial ?_
        refine WpPi.nil ?_
        refine WpC.seqR ?_
        refine WpOps.pn 1 rfl trivial ?_
        refine WpOps.nil ?_
        refine WpC.regionD ?_
        obtain ⟨c_7, h⟩ := Sh.chk_some h
        refine WpOps.pn 4 rfl c_7 ?_
        refine WpOps.nil ?_
        obtain rfl := Sh.some_inj h
        exact ⟨_, (Heap.le_refl _), ((i_1 + r_4.2), false, (out_1 ++ ([(GTok.mk r_4.1 ((r_2.drop (i_1).toNat).take (((i_1 + r_4.2)).toNat - (i_1).toNat)) file_1 y_1.at_ (y_2.at_ + (1 : Int)) passed_1)] : List GTok))), p_2, rfl, ⟨rfl, rfl, rfl, rfl, rfl, rfl, trivial⟩, hH⟩
    ·
      replace h := Sh.ite_neg hb h
      obtain rfl := Sh.some_inj h
      have e := hd_1 _ rfl
      subst e
      refine WpC.exit ?_
      exact ⟨(out_1, p_1), ⟨rfl, trivial⟩, hk_1, hH⟩
  ·
    rintro ⟨out_2, p_3⟩ env H' ⟨h, hH⟩
    try dsimp only at h
    refine WpC.seqR ?_
    refine WpOps.pn 2 rfl trivial ?_
    refine WpOps.nil ?_
    refine WpC.freeze (t := 4) (i := 0) hH rfl rfl (fun H' hH => ?_)
    obtain rfl := Sh.some_inj h
    refine WpC.ret ?_
    exact VEnds.ret1 rfl rfl ⟨rfl, hH⟩

theorem w_emendref04_Kind {H0 : Heap} {word_1 : List UInt8} {r : Int} (h : emendref04_Kind word_1 = some r) : TCall Tryd.prog 85 [(sA word_1)] H0 (fun v H' => v = (iA r) ∧ H' = H0) noE := by
  refine id (TCall.body Tryd.func85 rfl rfl ?_)
  have hH : Holds H0 [] H0 := rfl
  refine WpC.seqR ?_
  refine WpOps.pn 1 rfl trivial ?_
  refine WpOps.nil ?_
  refine WpC.seq ?_
  refine WpC.seqR ?_
  refine WpOps.pn 1 rfl trivial ?_
  refine WpOps.nil ?_
  refine WpC.block ?_
  refine WpC.seqR ?_
  refine WpOps.pn 2 rfl trivial ?_
  refine WpOps.nil ?_
  refine WpC.condB rfl (fun hb => ?_) (fun hb => ?_)
  ·
    replace h := Sh.ite_pos hb h
    refine WpC.seqR ?_
    refine WpOps.pn 1 rfl trivial ?_
    refine WpOps.nil ?_
    obtain rfl := Sh.some_inj h
    refine WpC.ret ?_
    exact VEnds.ret1 rfl rfl ⟨rfl, hH⟩
  ·
    replace h := Sh.ite_neg hb h
    refine WpC.seqR ?_
    refine WpOps.pn 2 rfl trivial ?_
    refine WpOps.nil ?_
    refine WpC.condB rfl (fun hb => ?_) (fun hb => ?_)
    ·
      replace h := Sh.ite_pos hb h
      refine WpC.seqR ?_
      refine WpOps.pn 1 rfl trivial ?_
      refine WpOps.nil ?_
      obtain rfl := Sh.some_inj h
      refine WpC.ret ?_
      exact VEnds.ret1 rfl rfl ⟨rfl, hH⟩
    ·
      replace h := Sh.ite_neg hb h
      refine WpC.seqR ?_
      refine WpOps.pn 2 rfl trivial ?_
      refine WpOps.nil ?_
      refine WpC.condB rfl (fun hb => ?_) (fun hb => ?_)
      ·
        replace h := Sh.ite_pos hb h
        refine WpC.seqR ?_
        refine WpOps.pn 1 rfl trivial ?_
        refine WpOps.nil ?_
        obtain rfl := Sh.some_inj h
        refine WpC.ret ?_
        exact VEnds.ret1 rfl rfl ⟨rfl, hH⟩
      ·
        replace h := Sh.ite_neg hb h
        refine WpC.seqR ?_
        refine WpOps.pn 2 rfl trivial ?_
        refine WpOps.nil ?_
        refine WpC.condB rfl (fun hb => ?_) (fun hb => ?_)
        ·
          replace h := Sh.ite_pos hb h
          refine WpC.seqR ?_
          refine WpOps.pn 1 rfl trivial ?_
          refine WpOps.nil ?_
          obtain rfl := Sh.some_inj h
          refine WpC.ret ?_
          exact VEnds.ret1 rfl rfl ⟨rfl, hH⟩
        ·
          replace h := Sh.ite_neg hb h
          refine WpC.seqR ?_
          refine WpOps.pn 2 rfl trivial ?_
          refine WpOps.nil ?_
          refine WpC.condB rfl (fun hb => ?_) (fun hb => ?_)
          ·
            replace h := Sh.ite_pos hb h
            refine WpC.seqR ?_
            refine WpOps.pn 1 rfl trivial ?_
            refine WpOps.nil ?_
            obtain rfl := Sh.some_inj h
            refine WpC.ret ?_
            exact VEnds.ret1 rfl rfl ⟨rfl, hH⟩
          ·
            replace h := Sh.ite_neg hb h
            refine WpC.seqR ?_
            refine WpOps.pn 2 rfl trivial ?_
            refine WpOps.nil ?_
            refine WpC.condB rfl (fun hb => ?_) (fun hb => ?_)
            ·
              replace h := Sh.ite_pos hb h
              refine WpC.seqR ?_
              refine WpOps.pn 1 rfl trivial ?_
              refine WpOps.nil ?_
              obtain rfl := Sh.some_inj h
              refine WpC.ret ?_
              exact VEnds.ret1 rfl rfl ⟨rfl, hH⟩
            ·
              replace h := Sh.ite_neg hb h
              refine WpC.seqR ?_
              refine WpOps.pn 2 rfl trivial ?_
              refine WpOps.nil ?_
              refine WpC.condB rfl (fun hb => ?_) (fun hb => ?_)
              ·
                replace h := Sh.ite_pos hb h
                refine WpC.seqR ?_
                refine WpOps.pn 1 rfl trivial ?_
                refine WpOps.nil ?_
                obtain rfl := Sh.some_inj h
                refine WpC.ret ?_
                exact VEnds.ret1 rfl rfl ⟨rfl, hH⟩
              ·
                replace h := Sh.ite_neg hb h
                refine WpC.seqR ?_
                refine WpOps.pn 2 rfl trivial ?_
                refine WpOps.nil ?_
                refine WpC.condB rfl (fun hb => ?_) (fun hb => ?_)
                ·
                  replace h := Sh.ite_pos hb h
                  refine WpC.seqR ?_
                  refine WpOps.pn 1 rfl trivial ?_
                  refine WpOps.nil ?_
                  obtain rfl := Sh.some_inj h
                  refine WpC.ret ?_
                  exact VEnds.ret1 rfl rfl ⟨rfl, hH⟩
                ·
                  replace h := Sh.ite_neg hb h
                  refine WpC.seqR ?_
                  refine WpOps.pn 2 rfl trivial ?_
                  refine WpOps.nil ?_
                  refine WpC.condB rfl (fun hb => ?_) (fun hb => ?_)
                  ·
                    replace h := Sh.ite_pos hb h
                    refine WpC.seqR ?_
                    refine WpOps.pn 1 rfl trivial ?_
                    refine WpOps.nil ?_
                    obtain rfl := Sh.some_inj h
                    refine WpC.ret ?_
                    exact VEnds.ret1 rfl rfl ⟨rfl, hH⟩
                  ·
                    replace h := Sh.ite_neg hb h
                    refine WpC.seqR ?_
                    refine WpOps.pn 2 rfl trivial ?_
                    refine WpOps.nil ?_
                    refine WpC.condB rfl (fun hb => ?_) (fun hb => ?_)
                    ·
                      replace h := Sh.ite_pos hb h
                      refine WpC.seqR ?_
                      refine WpOps.pn 1 rfl trivial ?_
                      refine WpOps.nil ?_
                      obtain rfl := Sh.some_inj h
                      refine WpC.ret ?_
                      exact VEnds.ret1 rfl rfl ⟨rfl, hH⟩
                    ·
                      replace h := Sh.ite_neg hb h
                      refine WpC.seqR ?_
                      refine WpOps.pn 2 rfl trivial ?_
                      refine WpOps.nil ?_
                      refine WpC.condB rfl (fun hb => ?_) (fun hb => ?_)
                      ·
                        replace h := Sh.ite_pos hb h
                        refine WpC.seqR ?_
                        refine WpOps.pn 1 rfl trivial ?_
                        refine WpOps.nil ?_
                        obtain rfl := Sh.some_inj h
                        refine WpC.ret ?_
                        exact VEnds.ret1 rfl rfl ⟨rfl, hH⟩
                      ·
                        replace h := Sh.ite_neg hb h
                        refine WpC.seqR ?_
                        refine WpOps.pn 2 rfl trivial ?_
                        refine WpOps.nil ?_
                        refine WpC.condB rfl (fun hb => ?_) (fun hb => ?_)
                        ·
                          replace h := Sh.ite_pos hb h
                          refine WpC.seqR ?_
                          refine WpOps.pn 1 rfl trivial ?_
                          refine WpOps.nil ?_
                          obtain rfl := Sh.some_inj h
                          refine WpC.ret ?_
                          exact VEnds.ret1 rfl rfl ⟨rfl, hH⟩
                        ·
                          replace h := Sh.ite_neg hb h
                          refine WpC.skipD ?_
                          refine ⟨_, Heap.le_refl _, ?_⟩
                          refine WpC.seqR ?_
                          refine WpOps.pn 1 rfl trivial ?_
                          refine WpOps.nil ?_
                          obtain rfl := Sh.some_inj h
                          refine WpC.ret ?_
                          exact VEnds.ret1 rfl rfl ⟨rfl, hH⟩

theorem w_emendref04_line {H0 : Heap} {l_1 : List GTok} {first_1 : Int} {r : GLine} (h : emendref04_line l_1 first_1 = some r) : TCall Tryd.prog 56 [(AV.rows 6 (List.map cGTok l_1)), (iA first_1)] H0 (fun v H' => v = (AV.agg (cGLine r)) ∧ H' = H0) noE := by
  refine TCall.up (TCall.body Tryd.func56 rfl rfl ?_)
  have hH : Holds H0 [] H0 := rfl
  refine WpC.seqR ?_
  refine WpOps.consG rfl rfl (WpO.allocU (z' := cGLine (GLine.mk (0 : Int) (0 : Int) (0 : Int) ([] : List GTok))) rfl rfl (.cons (.refl _) (.cons (.refl _) (.cons (.refl _) (.cons (Sub.nil _) .nil)))) hH fun g_1 H' hH => ?_)
  refine WpOps.nil ?_
  refine WpC.seqR ?_
  refine WpOps.pn 2 rfl trivial ?_
  refine WpOps.at 8 (len_map _ _) ?_
  refine WpOps.pn 1 rfl trivial ?_
  refine WpOps.nil ?_
  refine WpC.seq ?_
  refine WpC.seqR ?_
  refine WpOps.pn 2 rfl trivial ?_
  obtain ⟨b_1, g_2, h⟩ := Sh.bind_some h
  refine WpOps.cutB 7 17 (bA b_1) rfl ?_ ?_
  ·
    refine WpOps.pn 1 rfl trivial ?_
    refine WpOps.split 11 rfl (fun hb => ?_) (fun hb => ?_)
    ·
      replace g_2 := Sh.ite_pos hb g_2
      refine WpOps.pn 6 rfl trivial ?_
      refine WpOps.nil ?_
      obtain rfl := Sh.some_inj g_2
      exact ⟨rfl, rfl⟩
    ·
      replace g_2 := Sh.ite_neg hb g_2
      obtain ⟨y_1, hy_1, g_2⟩ := Sh.bind_some g_2
      refine WpOps.pn 1 rfl trivial ?_
      refine WpOps.consE (v := (.rop (cGTok y_1))) rfl rfl (Exact.ixr cGTok hy_1 rfl rfl rfl rfl (by kernel_rfl) (by decide)) ?_
      refine WpOps.pn 1 rfl trivial ?_
      refine WpOps.consE (v := (iA y_1.kind)) rfl rfl (Exact.load_rop rfl rfl rfl) ?_
      refine WpOps.pn 2 rfl trivial ?_
      refine WpOps.nil ?_
      obtain rfl := Sh.some_inj g_2
      exact ⟨rfl, rfl⟩
  intro env
  obtain ⟨b_2, g_3, h⟩ := Sh.bind_some h
  refine WpOps.cutB 7 24 (bA b_2) rfl ?_ ?_
  ·
    refine WpOps.pn 1 rfl trivial ?_
    refine WpOps.split 18 rfl (fun hb => ?_) (fun hb => ?_)
    ·
      replace g_3 := Sh.ite_pos hb g_3
      refine WpOps.pn 6 rfl trivial ?_
      refine WpOps.nil ?_
      obtain rfl := Sh.some_inj g_3
      exact ⟨rfl, rfl⟩
    ·
      replace g_3 := Sh.ite_neg hb g_3
      obtain ⟨y_2, hy_2, g_3⟩ := Sh.bind_some g_3
      refine WpOps.pn 1 rfl trivial ?_
      refine WpOps.consE (v := (.rop (cGTok y_2))) rfl rfl (Exact.ixr cGTok hy_2 rfl rfl rfl rfl (by kernel_rfl) (by decide)) ?_
      refine WpOps.pn 1 rfl trivial ?_
      refine WpOps.consE (v := (sA y_2.text)) rfl rfl (Exact.load_rop rfl rfl rfl) ?_
      refine WpOps.pn 2 rfl trivial ?_
      refine WpOps.nil ?_
      obtain rfl := Sh.some_inj g_3
      exact ⟨rfl, rfl⟩
  intro env
  refine WpOps.nil ?_
  refine WpC.condB rfl (fun hb => ?_) (fun hb => ?_)
  ·
    replace h := Sh.ite_pos hb h
    refine WpC.seqR ?_
    refine WpOps.pn 4 rfl trivial ?_
    refine WpOps.consG rfl rfl (WpO.putT (cs' := cGLine (GLine.mk (1 : Int) first_1 (l_1.length : Int) l_1)) (v := (AV.agg (cGLine (GLine.mk (1 : Int) first_1 (l_1.length : Int) l_1)))) rfl rfl hH (i := 0) rfl rfl rfl rfl rfl rfl rfl fun H' hH => ?_)
    refine WpOps.nil ?_
    obtain rfl := Sh.some_inj h
    refine WpC.ret ?_
    have hr := hH
    obtain ⟨_, hle_1, hx_1⟩ := hH.lose_ (i := 0) rfl
    exact VEnds.retG rfl (.cell rfl (hH.cell (i := 0) rfl) rfl rfl .nil) ⟨_, _, Up.drop hle_1 _, rfl, hx_1⟩
  ·
    replace h := Sh.ite_neg hb h
    refine WpC.skipD ?_
    refine ⟨_, Heap.le_refl _, ?_⟩
    refine WpC.seq ?_
    refine WpC.seqR ?_
    refine WpOps.pn 2 rfl trivial ?_
    refine WpOps.nil ?_
    refine WpC.condB rfl (fun hb => ?_) (fun hb => ?_)
    ·
      replace h := Sh.ite_pos hb h
      refine WpC.seqR ?_
      refine WpOps.pn 3 rfl trivial ?_
      refine WpOps.consG rfl rfl (WpO.putU (cs' := cGLine (GLine.mk (14 : Int) first_1 (l_1.length : Int) ([] : List GTok))) rfl rfl hH (i := 0) rfl rfl rfl rfl rfl rfl rfl (.cons (.refl _) (.cons (.refl _) (.cons (.refl _) (.cons (Sub.nil _) .nil)))) fun H' hH => ?_)
      refine WpOps.nil ?_
      obtain rfl := Sh.some_inj h
      refine WpC.ret ?_
      have hr := hH
      obtain ⟨_, hle_2, hx_2⟩ := hH.lose_ (i := 0) rfl
      exact VEnds.retG rfl (.cell rfl (hH.cell (i := 0) rfl) rfl rfl .nil) ⟨_, _, Up.drop hle_2 _, rfl, hx_2⟩
    ·
      replace h := Sh.ite_neg hb h
      refine WpC.skipD ?_
      refine ⟨_, Heap.le_refl _, ?_⟩
      refine WpC.seqR ?_
      obtain ⟨y_3, hy_3, h⟩ := Sh.bind_some h
      refine WpOps.pn 1 rfl trivial ?_
      refine WpOps.consE (v := (.rop (cGTok y_3))) rfl rfl (Exact.ixr cGTok hy_3 rfl rfl rfl rfl (by kernel_rfl) (by decide)) ?_
      refine WpOps.pn 1 rfl trivial ?_
      refine WpOps.consE (v := (sA y_3.text)) rfl rfl (Exact.load_rop rfl rfl rfl) ?_
      obtain ⟨r_1, hr_1, h⟩ := Sh.bind_some h
      refine WpOps.consE (v := (iA r_1)) rfl rfl (Exact.call rfl rfl rfl (w_emendref04_Kind hr_1)) ?_
      refine WpOps.pn 1 rfl trivial ?_
      refine WpOps.nil ?_
      refine WpC.seq ?_
      refine WpC.seqR ?_
      obtain ⟨y_4, hy_4, h⟩ := Sh.bind_some h
      refine WpOps.pn 1 rfl trivial ?_
      refine WpOps.consE (v := (.rop (cGTok y_4))) rfl rfl (Exact.ixr cGTok hy_4 rfl rfl rfl rfl (by kernel_rfl) (by decide)) ?_
      refine WpOps.pn 1 rfl trivial ?_
      refine WpOps.consE (v := (iA y_4.kind)) rfl rfl (Exact.load_rop rfl rfl rfl) ?_
      refine WpOps.pn 1 rfl trivial ?_
      obtain ⟨b_3, g_4, h⟩ := Sh.bind_some h
      refine WpOps.cutB 4 47 (bA b_3) rfl ?_ ?_
      ·
        refine WpOps.pn 1 rfl trivial ?_
        refine WpOps.split 44 rfl (fun hb => ?_) (fun hb => ?_)
        ·
          replace g_4 := Sh.ite_pos hb g_4
          refine WpOps.pn 3 rfl trivial ?_
          refine WpOps.nil ?_
          obtain rfl := Sh.some_inj g_4
          exact ⟨rfl, rfl⟩
        ·
          replace g_4 := Sh.ite_neg hb g_4
          refine WpOps.pn 3 rfl trivial ?_
          refine WpOps.nil ?_
          obtain rfl := Sh.some_inj g_4
          exact ⟨rfl, rfl⟩
      intro env
      refine WpOps.nil ?_
      refine WpC.condB rfl (fun hb => ?_) (fun hb => ?_)
      ·
        replace h := Sh.ite_pos hb h
        refine WpC.seqR ?_
        obtain ⟨c_1, h⟩ := Sh.chk_some h
        refine WpOps.pn 4 rfl trivial ?_
        refine WpOps.pn 1 rfl (show 0 ≤ (2 : Int) ∧ True ∧ True ∧ ((2 : Int)).toNat ≤ (List.map cGTok l_1).length ∧ True from ⟨(by omega), trivial, trivial, (by simp only [List.length_map]; omega), trivial⟩) ?_
        refine WpOps.at 52 (rows_drop 6 cGTok l_1 _) ?_
        refine WpOps.pn 1 rfl trivial ?_
        refine WpOps.consG rfl rfl (WpO.putT (cs' := cGLine (GLine.mk r_1 first_1 (l_1.length : Int) (l_1.drop ((2 : Int)).toNat))) (v := (AV.agg (cGLine (GLine.mk r_1 first_1 (l_1.length : Int) (l_1.drop ((2 : Int)).toNat))))) rfl rfl hH (i := 0) rfl rfl rfl rfl rfl rfl rfl fun H' hH => ?_)
        refine WpOps.nil ?_
        obtain rfl := Sh.some_inj h
        refine WpC.ret ?_
        have hr := hH
        obtain ⟨_, hle_3, hx_3⟩ := hH.lose_ (i := 0) rfl
        exact VEnds.retG rfl (.cell rfl (hH.cell (i := 0) rfl) rfl rfl .nil) ⟨_, _, Up.drop hle_3 _, rfl, hx_3⟩
      ·
        replace h := Sh.ite_neg hb h
        refine WpC.skipD ?_
        refine ⟨_, Heap.le_refl _, ?_⟩
        refine WpC.seqR ?_
        obtain ⟨c_2, h⟩ := Sh.chk_some h
        refine WpOps.pn 3 rfl trivial ?_
        refine WpOps.pn 1 rfl (show 0 ≤ (1 : Int) ∧ True ∧ True ∧ ((1 : Int)).toNat ≤ (List.map cGTok l_1).length ∧ True from ⟨(by omega), trivial, trivial, (by simp only [List.length_map]; omega), trivial⟩) ?_
        refine WpOps.at 57 (rows_drop 6 cGTok l_1 _) ?_
        refine WpOps.pn 1 rfl trivial ?_
        refine WpOps.consG rfl rfl (WpO.putT (cs' := cGLine (GLine.mk (15 : Int) first_1 (l_1.length : Int) (l_1.drop ((1 : Int)).toNat))) (v := (AV.agg (cGLine (GLine.mk (15 : Int) first_1 (l_1.length : Int) (l_1.drop ((1 : Int)).toNat))))) rfl rfl hH (i := 0) rfl rfl rfl rfl rfl rfl rfl fun H' hH => ?_)
        refine WpOps.nil ?_
        obtain rfl := Sh.some_inj h
        refine WpC.ret ?_
        have hr := hH
        obtain ⟨_, hle_4, hx_4⟩ := hH.lose_ (i := 0) rfl
        exact VEnds.retG rfl (.cell rfl (hH.cell (i := 0) rfl) rfl rfl .nil) ⟨_, _, Up.drop hle_4 _, rfl, hx_4⟩

theorem w_emendref04_Lines {H0 : Heap} {l_1 : List GTok} {r : List GLine} (h : emendref04_Lines l_1 = some r) : TCall Tryd.prog 41 [(AV.rows 6 (List.map cGTok l_1))] H0 (fun v H' => v = (AV.rows 4 (List.map cGLine r)) ∧ H' = H0) noE := by
  refine id (TCall.body Tryd.func41 rfl rfl ?_)
  have hH : Holds H0 [] H0 := rfl
  refine WpC.seqR ?_
  refine WpOps.pn 1 rfl trivial ?_
  refine WpOps.nil ?_
  refine WpC.seqR ?_
  refine WpOps.pn 1 rfl trivial ?_
  have hH := hH.nil 47 4
  refine WpOps.nil ?_
  refine WpC.seqR ?_
  refine WpOps.pn 1 rfl trivial ?_
  refine WpOps.nil ?_
  refine WpC.seq ?_
  refine WpC.seqR ?_
  refine WpOps.pn 1 rfl trivial ?_
  refine WpOps.nil ?_
  refine WpC.blockK (fun x : (Int × List GLine) × ((Option (Nat × Nat))) => [(0, (AV.rows 6 (List.map cGTok l_1))), (3, (.own (List.map cGLine x.1.2).length x.2)), (4, (iA x.1.1))]) (fun x H' => (emendref04_Lines_j1 l_1) x.1 = some r ∧ Holds H0 [.own 47 4 x.2 (List.map cGLine x.1.2)] H') ?_ ?_
  ·
    obtain ⟨o_1, ho_1, hk_1⟩ := Sh.bind_some h
    refine WpC.loopS (emendref04_Lines_b2 l_1) (fun (s : Int × Int × List GLine) (a : (Option (Nat × Nat))) => [(0, (AV.rows 6 (List.map cGTok l_1))), (3, (.own (List.map cGLine s.2.2).length a)), (4, (iA s.1)), (5, (iA s.2.1))]) (fun (s : Int × Int × List GLine) (a : (Option (Nat × Nat))) H' => Holds H0 [.own 47 4 a (List.map cGLine s.2.2)] H') o_1 ((0 : Int), (0 : Int), ([] : List GLine)) none ho_1 ⟨rfl, rfl, rfl, rfl, trivial⟩ hH ?_
    rintro ⟨from_1, i_1, out_1⟩ p_1 st_1 env H' h hd_1 hH
    refine WpC.seq ?_
    refine WpC.seqR ?_
    refine WpOps.pn 3 rfl trivial ?_
    refine WpOps.at 8 (len_map _ _) ?_
    refine WpOps.pn 1 rfl trivial ?_
    refine WpOps.nil ?_
    refine WpC.condB rfl (fun hb => ?_) (fun hb => ?_)
    ·
      replace h := Sh.ite_pos hb h
      refine WpC.skipD ?_
      refine ⟨_, Heap.le_refl _, ?_⟩
      refine WpC.seq ?_
      refine WpC.block ?_
      refine WpC.seqR ?_
      obtain ⟨y_1, hy_1, h⟩ := Sh.bind_some h
      refine WpOps.pn 2 rfl trivial ?_
      refine WpOps.consE (v := (.rop (cGTok y_1))) rfl rfl (Exact.ixr cGTok hy_1 rfl rfl rfl rfl (by kernel_rfl) (by decide)) ?_
      refine WpOps.pn 1 rfl trivial ?_
      refine WpOps.consE (v := (iA y_1.kind)) rfl rfl (Exact.load_rop rfl rfl rfl) ?_
      refine WpOps.pn 1 rfl trivial ?_
      refine WpOps.nil ?_
      refine WpC.condB rfl (fun hb => ?_) (fun hb => ?_)
      ·
        replace h := Sh.ite_pos hb h
        refine WpC.seqR ?_
        obtain ⟨c_1, h⟩ := Sh.chk_some h
        refine WpOps.pn 4 rfl trivial ?_
        refine WpOps.pn 1 rfl (show 0 ≤ from_1 ∧ 0 ≤ i_1 ∧ True ∧ ((from_1).toNat ≤ (i_1).toNat ∧ (i_1).toNat ≤ (List.map cGTok l_1).length) ∧ True from ⟨(by omega), (by omega), trivial, (by simp only [List.length_map]; omega), trivial⟩) ?_
        refine WpOps.at 22 (rows_cut 6 cGTok l_1 _ _) ?_
        obtain ⟨r_1, hr_1, h⟩ := Sh.bind_some h
        refine WpOps.pn 1 rfl trivial ?_
        refine WpOps.consE (v := (AV.agg (cGLine r_1))) rfl rfl (Exact.call rfl rfl rfl (w_emendref04_line hr_1)) ?_
        refine WpOps.consE (v := (AV.rows 4 (List.map cGLine ([r_1] : List GLine)))) rfl rfl (Exact.litSlice rfl (by kernel_rfl)) ?_
        obtain ⟨c_2, h⟩ := Sh.chk_some h
        refine WpOps.consG rfl rfl (WpO.pushT cGLine out_1 ([r_1] : List GLine) (i := 0) rfl ek53 hH rfl rfl rfl (.rows _) (fun y _ => one_cGLine y) (by simp) c_2 (by decide) fun p_2 H' hH => ?_)
        refine WpOps.pn 1 rfl trivial ?_
        refine WpOps.nil ?_
        refine WpC.regionD ?_
        obtain ⟨c_3, h⟩ := Sh.chk_some h
        refine WpOps.pn 3 rfl c_3 ?_
        refine WpOps.nil ?_
        refine ⟨_, Heap.le_refl _, ?_⟩
        refine WpC.regionD ?_
        obtain ⟨c_4, h⟩ := Sh.chk_some h
        refine WpOps.pn 3 rfl c_4 ?_
        refine WpOps.nil ?_
        obtain rfl := Sh.some_inj h
        exact ⟨_, (Heap.le_refl _), ((i_1 + (1 : Int)), (i_1 + (1 : Int)), (out_1 ++ ([r_1] : List GLine))), p_2, rfl, ⟨rfl, rfl, rfl, rfl, trivial⟩, hH⟩
      ·
        replace h := Sh.ite_neg hb h
        refine WpC.skipD ?_
        refine ⟨_, Heap.le_refl _, ?_⟩
        refine WpC.regionD ?_
        obtain ⟨c_5, h⟩ := Sh.chk_some h
        refine WpOps.pn 3 rfl c_5 ?_
        refine WpOps.nil ?_
        obtain rfl := Sh.some_inj h
        exact ⟨_, (Heap.le_refl _), (from_1, (i_1 + (1 : Int)), out_1), p_1, rfl, ⟨rfl, rfl, rfl, rfl, trivial⟩, hH⟩
    ·
      replace h := Sh.ite_neg hb h
      obtain rfl := Sh.some_inj h
      have e := hd_1 _ rfl
      subst e
      refine WpC.exit ?_
      exact ⟨((from_1, out_1), p_1), ⟨rfl, rfl, rfl, trivial⟩, hk_1, hH⟩
  ·
    rintro ⟨⟨from_2, out_2⟩, p_3⟩ env H' ⟨h, hH⟩
    try dsimp only at h
    refine ⟨_, Heap.le_refl _, ?_⟩
    refine WpC.seqK (fun x : (List GLine) × ((Option (Nat × Nat))) => [(3, (.own (List.map cGLine x.1).length x.2))]) (fun x H' => emendref04_Lines_j3 x.1 = some r ∧ Holds H0 [.own 47 4 x.2 (List.map cGLine x.1)] H') ?_ ?_
    ·
      refine WpC.seqR ?_
      refine WpOps.pn 3 rfl trivial ?_
      refine WpOps.at 31 (len_map _ _) ?_
      refine WpOps.pn 1 rfl trivial ?_
      refine WpOps.nil ?_
      refine WpC.condB rfl (fun hb => ?_) (fun hb => ?_)
      ·
        replace h := Sh.ite_pos hb h
        refine WpC.regionD ?_
        obtain ⟨c_6, h⟩ := Sh.chk_some h
        refine WpOps.pn 3 rfl trivial ?_
        refine WpOps.pn 1 rfl (show 0 ≤ from_2 ∧ True ∧ True ∧ (from_2).toNat ≤ (List.map cGTok l_1).length ∧ True from ⟨(by omega), trivial, trivial, (by simp only [List.length_map]; omega), trivial⟩) ?_
        refine WpOps.at 36 (rows_drop 6 cGTok l_1 _) ?_
        obtain ⟨r_2, hr_2, h⟩ := Sh.bind_some h
        refine WpOps.pn 1 rfl trivial ?_
        refine WpOps.consE (v := (AV.agg (cGLine r_2))) rfl rfl (Exact.call rfl rfl rfl (w_emendref04_line hr_2)) ?_
        refine WpOps.consE (v := (AV.rows 4 (List.map cGLine ([r_2] : List GLine)))) rfl rfl (Exact.litSlice rfl (by kernel_rfl)) ?_
        obtain ⟨c_7, h⟩ := Sh.chk_some h
        refine WpOps.consG rfl rfl (WpO.pushT cGLine out_2 ([r_2] : List GLine) (i := 0) rfl ek53 hH rfl rfl rfl (.rows _) (fun y _ => one_cGLine y) (by simp) c_7 (by decide) fun p_4 H' hH => ?_)
        refine WpOps.pn 1 rfl trivial ?_
        refine WpOps.nil ?_
        exact ⟨_, (Heap.le_refl _), ((out_2 ++ ([r_2] : List GLine)), p_4), ⟨rfl, trivial⟩, h, hH⟩
      ·
        replace h := Sh.ite_neg hb h
        refine WpC.skipD ?_
        exact ⟨_, (Heap.le_refl _), (out_2, p_3), ⟨rfl, trivial⟩, h, hH⟩
    ·
      rintro ⟨out_3, p_5⟩ env H' ⟨h, hH⟩
      try dsimp only at h
      refine WpC.seqR ?_
      refine WpOps.pn 2 rfl trivial ?_
      refine WpOps.nil ?_
      refine WpC.freeze (t := 2) (i := 0) hH rfl rfl (fun H' hH => ?_)
      obtain rfl := Sh.some_inj h
      refine WpC.ret ?_
      exact VEnds.ret1 rfl rfl ⟨rfl, hH⟩

theorem w_emendref11_lines {H0 : Heap} {files_1 : List GFile} {r : List GLine} (h : emendref11_lines files_1 = some r) : TCall Tryd.prog 32 [(AV.rows 2 (List.map cGFile files_1))] H0 (fun v H' => v = (AV.rows 4 (List.map cGLine r)) ∧ H' = H0) noE := by
  refine id (TCall.body Tryd.func32 rfl rfl ?_)
  have hH : Holds H0 [] H0 := rfl
  refine WpC.seqR ?_
  refine WpOps.pn 1 rfl trivial ?_
  refine WpOps.nil ?_
  refine WpC.seqR ?_
  refine WpOps.pn 1 rfl trivial ?_
  have hH := hH.nil 47 4
  refine WpOps.nil ?_
  refine WpC.seq ?_
  refine WpC.seqR ?_
  refine WpOps.pn 1 rfl trivial ?_
  refine WpOps.nil ?_
  refine WpC.blockK (fun x : (List GLine) × ((Option (Nat × Nat))) => [(3, (.own (List.map cGLine x.1).length x.2))]) (fun x H' => emendref11_lines_j1 x.1 = some r ∧ Holds H0 [.own 47 4 x.2 (List.map cGLine x.1)] H') ?_ ?_
  ·
    obtain ⟨o_1, ho_1, hk_1⟩ := Sh.bind_some h
    refine WpC.loopS (emendref11_lines_b2 files_1) (fun (s : Int × List GLine) (a : (Option (Nat × Nat))) => [(0, (AV.rows 2 (List.map cGFile files_1))), (3, (.own (List.map cGLine s.2).length a)), (4, (iA s.1))]) (fun (s : Int × List GLine) (a : (Option (Nat × Nat))) H' => Holds H0 [.own 47 4 a (List.map cGLine s.2)] H') o_1 ((0 : Int), ([] : List GLine)) none ho_1 ⟨rfl, rfl, rfl, trivial⟩ hH ?_
    rintro ⟨i_1, out_1⟩ p_1 st_1 env H' h hd_1 hH
    refine WpC.seq ?_
    refine WpC.seqR ?_
    refine WpOps.pn 3 rfl trivial ?_
    refine WpOps.at 7 (len_map _ _) ?_
    refine WpOps.pn 1 rfl trivial ?_
    refine WpOps.nil ?_
    refine WpC.condB rfl (fun hb => ?_) (fun hb => ?_)
    ·
      replace h := Sh.ite_pos hb h
      refine WpC.skipD ?_
      refine ⟨_, Heap.le_refl _, ?_⟩
      refine WpC.seq ?_
      refine WpC.block ?_
      refine WpC.regionD ?_
      obtain ⟨y_1, hy_1, h⟩ := Sh.bind_some h
      refine WpOps.pn 4 rfl trivial ?_
      refine WpOps.consE (v := (.rop (cGFile y_1))) rfl rfl (Exact.ixr cGFile hy_1 rfl rfl rfl rfl (by kernel_rfl) (by decide)) ?_
      refine WpOps.pn 1 rfl trivial ?_
      refine WpOps.consE (v := (sA y_1.text)) rfl rfl (Exact.load_rop rfl rfl rfl) ?_
      obtain ⟨r_1, hr_1, h⟩ := Sh.bind_some h
      refine WpOps.consE (v := (AV.rows 6 (List.map cGTok r_1))) rfl rfl (Exact.call rfl rfl rfl (w_emendref03_Tokens hr_1)) ?_
      obtain ⟨r_2, hr_2, h⟩ := Sh.bind_some h
      refine WpOps.consE (v := (AV.rows 4 (List.map cGLine r_2))) rfl rfl (Exact.call rfl rfl rfl (w_emendref04_Lines hr_2)) ?_
      obtain ⟨c_1, h⟩ := Sh.chk_some h
      refine WpOps.consG rfl rfl (WpO.pushA cGLine out_1 r_2 (i := 0) rfl ek53 hH rfl rfl rfl (.rows _) (fun y _ => one_cGLine y) c_1 (by decide) fun p_2 H' hH => ?_)
      refine WpOps.pn 1 rfl trivial ?_
      refine WpOps.nil ?_
      refine ⟨_, Heap.le_refl _, ?_⟩
      refine WpC.regionD ?_
      obtain ⟨c_2, h⟩ := Sh.chk_some h
      refine WpOps.pn 3 rfl c_2 ?_
      refine WpOps.nil ?_
      obtain rfl := Sh.some_inj h
      exact ⟨_, (Heap.le_refl _), ((i_1 + (1 : Int)), (out_1 ++ r_2)), p_2, rfl, ⟨rfl, rfl, rfl, trivial⟩, hH⟩
    ·
      replace h := Sh.ite_neg hb h
      obtain rfl := Sh.some_inj h
      have e := hd_1 _ rfl
      subst e
      refine WpC.exit ?_
      exact ⟨(out_1, p_1), ⟨rfl, trivial⟩, hk_1, hH⟩
  ·
    rintro ⟨out_2, p_3⟩ env H' ⟨h, hH⟩
    try dsimp only at h
    refine ⟨_, Heap.le_refl _, ?_⟩
    refine WpC.seqR ?_
    refine WpOps.pn 2 rfl trivial ?_
    refine WpOps.nil ?_
    refine WpC.freeze (t := 2) (i := 0) hH rfl rfl (fun H' hH => ?_)
    obtain rfl := Sh.some_inj h
    refine WpC.ret ?_
    exact VEnds.ret1 rfl rfl ⟨rfl, hH⟩

theorem w_emendref11_Put {H0 : Heap} {l_1 : List (List UInt8)} {name_1 : List UInt8} {r : List (List UInt8)} (h : emendref11_Put l_1 name_1 = some r) : TCall Tryd.prog 33 [(AV.rows 1 (List.map cS l_1)), (sA name_1)] H0 (fun v H' => v = (AV.rows 1 (List.map cS r)) ∧ H' = H0) noE := by
  refine id (TCall.body Tryd.func33 rfl rfl ?_)
  have hH : Holds H0 [] H0 := rfl
  refine WpC.seqR ?_
  refine WpOps.pn 1 rfl trivial ?_
  refine WpOps.nil ?_
  refine WpC.seqR ?_
  refine WpOps.pn 1 rfl trivial ?_
  have hH := hH.nil 9 1
  refine WpOps.nil ?_
  refine WpC.seqR ?_
  refine WpOps.pn 1 rfl trivial ?_
  refine WpOps.nil ?_
  refine WpC.seq ?_
  refine WpC.seqR ?_
  refine WpOps.pn 1 rfl trivial ?_
  refine WpOps.nil ?_
  refine WpC.blockK (fun x : (Bool × List (List UInt8)) × ((Option (Nat × Nat))) => [(1, (sA name_1)), (5, (.own (List.map cS x.1.2).length x.2)), (6, (bA x.1.1))]) (fun x H' => (emendref11_Put_j1 name_1) x.1 = some r ∧ Holds H0 [.own 9 1 x.2 (List.map cS x.1.2)] H') ?_ ?_
  ·
    obtain ⟨o_1, ho_1, hk_1⟩ := Sh.bind_some h
    refine WpC.loopS (emendref11_Put_b2 l_1 name_1) (fun (s : Bool × Int × List (List UInt8)) (a : (Option (Nat × Nat))) => [(0, (AV.rows 1 (List.map cS l_1))), (1, (sA name_1)), (5, (.own (List.map cS s.2.2).length a)), (6, (bA s.1)), (7, (iA s.2.1))]) (fun (s : Bool × Int × List (List UInt8)) (a : (Option (Nat × Nat))) H' => Holds H0 [.own 9 1 a (List.map cS s.2.2)] H') o_1 (false, (0 : Int), ([] : List (List UInt8))) none ho_1 ⟨rfl, rfl, rfl, rfl, rfl, trivial⟩ hH ?_
    rintro ⟨done_1, i_1, out_1⟩ p_1 st_1 env H' h hd_1 hH
    refine WpC.seq ?_
    refine WpC.seqR ?_
    refine WpOps.pn 3 rfl trivial ?_
    refine WpOps.at 10 (len_map _ _) ?_
    refine WpOps.pn 1 rfl trivial ?_
    refine WpOps.nil ?_
    refine WpC.condB rfl (fun hb => ?_) (fun hb => ?_)
    ·
      replace h := Sh.ite_pos hb h
      refine WpC.skipD ?_
      refine ⟨_, Heap.le_refl _, ?_⟩
      refine WpC.seq ?_
      refine WpC.block ?_
      refine WpC.seq ?_
      refine WpC.seqR ?_
      obtain ⟨y_1, hy_1, h⟩ := Sh.bind_some h
      refine WpOps.pn 2 rfl trivial ?_
      refine WpOps.consE (v := (.rop (cS y_1))) rfl rfl (Exact.ixr cS hy_1 rfl rfl rfl rfl (by kernel_rfl) (by decide)) ?_
      refine WpOps.consE (v := (sA y_1)) rfl rfl (Exact.load_rop rfl rfl rfl) ?_
      refine WpOps.pn 2 rfl trivial ?_
      refine WpOps.nil ?_
      refine WpC.condB rfl (fun hb => ?_) (fun hb => ?_)
      ·
        replace h := Sh.ite_pos hb h
        refine WpC.seqR ?_
        refine WpOps.pn 2 rfl trivial ?_
        refine WpOps.nil ?_
        refine WpC.lose (i := 0) hH rfl (fun H' hH => ?_)
        obtain rfl := Sh.some_inj h
        have e := hd_1 _ rfl
        subst e
        have h := hk_1
        obtain rfl := Sh.some_inj h
        refine WpC.ret ?_
        exact VEnds.ret1 rfl rfl ⟨rfl, hH⟩
      ·
        replace h := Sh.ite_neg hb h
        refine WpC.skipD ?_
        refine ⟨_, Heap.le_refl _, ?_⟩
        refine WpC.seqK (fun x : (Bool × List (List UInt8)) × ((Option (Nat × Nat))) => [(0, (AV.rows 1 (List.map cS l_1))), (1, (sA name_1)), (5, (.own (List.map cS x.1.2).length x.2)), (6, (bA x.1.1)), (7, (iA i_1))]) (fun x H' => (emendref11_Put_j3 l_1 i_1) x.1 = some st_1 ∧ Holds H0 [.own 9 1 x.2 (List.map cS x.1.2)] H') ?_ ?_
        ·
          refine WpC.seqR ?_
          refine WpOps.pn 2 rfl trivial ?_
          obtain ⟨b_1, g_1, h⟩ := Sh.bind_some h
          refine WpOps.cutB 8 30 (bA b_1) rfl ?_ ?_
          ·
            refine WpOps.pn 1 rfl trivial ?_
            refine WpOps.split 23 rfl (fun hb => ?_) (fun hb => ?_)
            ·
              replace g_1 := Sh.ite_pos hb g_1
              obtain ⟨y_2, hy_2, g_1⟩ := Sh.bind_some g_1
              refine WpOps.pn 2 rfl trivial ?_
              refine WpOps.consE (v := (.rop (cS y_2))) rfl rfl (Exact.ixr cS hy_2 rfl rfl rfl rfl (by kernel_rfl) (by decide)) ?_
              refine WpOps.consE (v := (sA y_2)) rfl rfl (Exact.load_rop rfl rfl rfl) ?_
              refine WpOps.pn 3 rfl trivial ?_
              refine WpOps.nil ?_
              obtain rfl := Sh.some_inj g_1
              exact ⟨rfl, rfl⟩
            ·
              replace g_1 := Sh.ite_neg hb g_1
              refine WpOps.pn 7 rfl trivial ?_
              refine WpOps.nil ?_
              obtain rfl := Sh.some_inj g_1
              exact ⟨rfl, rfl⟩
          intro env
          refine WpOps.nil ?_
          refine WpC.condB rfl (fun hb => ?_) (fun hb => ?_)
          ·
            replace h := Sh.ite_pos hb h
            refine WpC.seqR ?_
            refine WpOps.pn 2 rfl trivial ?_
            refine WpOps.consE (v := (AV.rows 1 (List.map cS ([name_1] : List (List UInt8))))) rfl rfl (Exact.litSlice rfl (by kernel_rfl)) ?_
            obtain ⟨c_1, h⟩ := Sh.chk_some h
            refine WpOps.consG rfl rfl (WpO.pushT cS out_1 ([name_1] : List (List UInt8)) (i := 0) rfl ek22 hH rfl rfl rfl (.rows _) (fun y _ => one_cS y) (by simp) c_1 (by decide) fun p_2 H' hH => ?_)
            refine WpOps.pn 1 rfl trivial ?_
            refine WpOps.nil ?_
            refine WpC.regionD ?_
            refine WpOps.pn 1 rfl trivial ?_
            refine WpOps.nil ?_
            exact ⟨_, (Heap.le_refl _), ((true, (out_1 ++ ([name_1] : List (List UInt8)))), p_2), ⟨rfl, rfl, rfl, rfl, rfl, trivial⟩, h, hH⟩
          ·
            replace h := Sh.ite_neg hb h
            refine WpC.skipD ?_
            exact ⟨_, (Heap.le_refl _), ((done_1, out_1), p_1), ⟨rfl, rfl, rfl, rfl, rfl, trivial⟩, h, hH⟩
        ·
          rintro ⟨⟨done_2, out_2⟩, p_3⟩ env H' ⟨h, hH⟩
          try dsimp only at h
          refine WpC.regionD ?_
          obtain ⟨y_3, hy_3, h⟩ := Sh.bind_some h
          refine WpOps.pn 3 rfl trivial ?_
          refine WpOps.consE (v := (.rop (cS y_3))) rfl rfl (Exact.ixr cS hy_3 rfl rfl rfl rfl (by kernel_rfl) (by decide)) ?_
          refine WpOps.consE (v := (sA y_3)) rfl rfl (Exact.load_rop rfl rfl rfl) ?_
          refine WpOps.consE (v := (AV.rows 1 (List.map cS ([y_3] : List (List UInt8))))) rfl rfl (Exact.litSlice rfl (by kernel_rfl)) ?_
          obtain ⟨c_2, h⟩ := Sh.chk_some h
          refine WpOps.consG rfl rfl (WpO.pushT cS out_2 ([y_3] : List (List UInt8)) (i := 0) rfl ek22 hH rfl rfl rfl (.rows _) (fun y _ => one_cS y) (by simp) c_2 (by decide) fun p_4 H' hH => ?_)
          refine WpOps.pn 1 rfl trivial ?_
          refine WpOps.nil ?_
          refine ⟨_, Heap.le_refl _, ?_⟩
          refine WpC.regionD ?_
          obtain ⟨c_3, h⟩ := Sh.chk_some h
          refine WpOps.pn 3 rfl c_3 ?_
          refine WpOps.nil ?_
          obtain rfl := Sh.some_inj h
          exact ⟨_, (Heap.le_refl _), (done_2, (i_1 + (1 : Int)), (out_2 ++ ([y_3] : List (List UInt8)))), p_4, rfl, ⟨rfl, rfl, rfl, rfl, rfl, trivial⟩, hH⟩
    ·
      replace h := Sh.ite_neg hb h
      obtain rfl := Sh.some_inj h
      have e := hd_1 _ rfl
      subst e
      refine WpC.exit ?_
      exact ⟨((done_1, out_1), p_1), ⟨rfl, rfl, rfl, trivial⟩, hk_1, hH⟩
  ·
    rintro ⟨⟨done_3, out_3⟩, p_5⟩ env H' ⟨h, hH⟩
    try dsimp only at h
    refine ⟨_, Heap.le_refl _, ?_⟩
    refine WpC.seqK (fun x : (List (List UInt8)) × ((Option (Nat × Nat))) => [(5, (.own (List.map cS x.1).length x.2))]) (fun x H' => emendref11_Put_j4 x.1 = some r ∧ Holds H0 [.own 9 1 x.2 (List.map cS x.1)] H') ?_ ?_
    ·
      refine WpC.seqR ?_
      refine WpOps.pn 2 rfl trivial ?_
      refine WpOps.nil ?_
      refine WpC.condB rfl (fun hb => ?_) (fun hb => ?_)
      ·
        replace h := Sh.ite_pos hb h
        refine WpC.regionD ?_
        refine WpOps.pn 2 rfl trivial ?_
        refine WpOps.consE (v := (AV.rows 1 (List.map cS ([name_1] : List (List UInt8))))) rfl rfl (Exact.litSlice rfl (by kernel_rfl)) ?_
        obtain ⟨c_4, h⟩ := Sh.chk_some h
        refine WpOps.consG rfl rfl (WpO.pushT cS out_3 ([name_1] : List (List UInt8)) (i := 0) rfl ek22 hH rfl rfl rfl (.rows _) (fun y _ => one_cS y) (by simp) c_4 (by decide) fun p_6 H' hH => ?_)
        refine WpOps.pn 1 rfl trivial ?_
        refine WpOps.nil ?_
        exact ⟨_, (Heap.le_refl _), ((out_3 ++ ([name_1] : List (List UInt8))), p_6), ⟨rfl, trivial⟩, h, hH⟩
      ·
        replace h := Sh.ite_neg hb h
        refine WpC.skipD ?_
        exact ⟨_, (Heap.le_refl _), (out_3, p_5), ⟨rfl, trivial⟩, h, hH⟩
    ·
      rintro ⟨out_4, p_7⟩ env H' ⟨h, hH⟩
      try dsimp only at h
      refine WpC.seqR ?_
      refine WpOps.pn 2 rfl trivial ?_
      refine WpOps.nil ?_
      refine WpC.freeze (t := 4) (i := 0) hH rfl rfl (fun H' hH => ?_)
      obtain rfl := Sh.some_inj h
      refine WpC.ret ?_
      exact VEnds.ret1 rfl rfl ⟨rfl, hH⟩

theorem w_emendref11_Known {H0 : Heap} {files_1 : List GFile} {r : List (List UInt8)} (h : emendref11_Known files_1 = some r) : TCall Tryd.prog 20 [(AV.rows 2 (List.map cGFile files_1))] H0 (fun v H' => v = (AV.rows 1 (List.map cS r)) ∧ H' = H0) noE := by
  refine id (TCall.body Tryd.func20 rfl rfl ?_)
  have hH : Holds H0 [] H0 := rfl
  refine WpC.seqR ?_
  refine WpOps.pn 1 rfl trivial ?_
  refine WpOps.nil ?_
  refine WpC.seqR ?_
  refine WpOps.pn 1 rfl trivial ?_
  refine WpOps.nil ?_
  refine WpC.seqR ?_
  obtain ⟨r_1, hr_1, h⟩ := Sh.bind_some h
  refine WpOps.pn 1 rfl trivial ?_
  refine WpOps.consE (v := (AV.rows 4 (List.map cGLine r_1))) rfl rfl (Exact.call rfl rfl rfl (w_emendref11_lines hr_1)) ?_
  refine WpOps.pn 1 rfl trivial ?_
  refine WpOps.nil ?_
  refine WpC.seq ?_
  refine WpC.seqR ?_
  refine WpOps.pn 1 rfl trivial ?_
  refine WpOps.nil ?_
  refine WpC.sub (t := 3) (Sub.nil 1) ?_
  refine WpC.blockK (fun x : (List (List UInt8)) × (Unit) => [(3, (AV.rows 1 (List.map cS x.1)))]) (fun x H' => emendref11_Known_j1 x.1 = some r ∧ Holds H0 [] H') ?_ ?_
  ·
    obtain ⟨o_1, ho_1, hk_1⟩ := Sh.bind_some h
    refine WpC.loopS (emendref11_Known_b2 r_1) (fun (s : List (List UInt8) × Int) (a : Unit) => [(3, (AV.rows 1 (List.map cS s.1))), (4, (AV.rows 4 (List.map cGLine r_1))), (5, (iA s.2))]) (fun (s : List (List UInt8) × Int) (a : Unit) H' => Holds H0 [] H') o_1 (([] : List (List UInt8)), (0 : Int)) () ho_1 ⟨rfl, rfl, rfl, trivial⟩ hH ?_
    rintro ⟨out_1, i_1⟩ _ st_1 env H' h hd_1 hH
    refine WpC.seq ?_
    refine WpC.seqR ?_
    refine WpOps.pn 3 rfl trivial ?_
    refine WpOps.at 10 (len_map _ _) ?_
    refine WpOps.pn 1 rfl trivial ?_
    refine WpOps.nil ?_
    refine WpC.condB rfl (fun hb => ?_) (fun hb => ?_)
    ·
      replace h := Sh.ite_pos hb h
      refine WpC.skipD ?_
      refine ⟨_, Heap.le_refl _, ?_⟩
      refine WpC.seq ?_
      refine WpC.block ?_
      refine WpC.seqR ?_
      obtain ⟨y_1, hy_1, h⟩ := Sh.bind_some h
      refine WpOps.pn 2 rfl trivial ?_
      refine WpOps.consE (v := (.rop (cGLine y_1))) rfl rfl (Exact.ixr cGLine hy_1 rfl rfl rfl rfl (by kernel_rfl) (by decide)) ?_
      refine WpOps.pn 1 rfl trivial ?_
      refine WpOps.consE (v := (iA y_1.kind)) rfl rfl (Exact.load_rop rfl rfl rfl) ?_
      refine WpOps.pn 1 rfl trivial ?_
      obtain ⟨b_1, g_1, h⟩ := Sh.bind_some h
      refine WpOps.cutB 8 27 (bA b_1) rfl ?_ ?_
      ·
        refine WpOps.pn 1 rfl trivial ?_
        refine WpOps.split 20 rfl (fun hb => ?_) (fun hb => ?_)
        ·
          replace g_1 := Sh.ite_pos hb g_1
          refine WpOps.pn 7 rfl trivial ?_
          refine WpOps.nil ?_
          obtain rfl := Sh.some_inj g_1
          exact ⟨rfl, rfl⟩
        ·
          replace g_1 := Sh.ite_neg hb g_1
          obtain ⟨y_2, hy_2, g_1⟩ := Sh.bind_some g_1
          refine WpOps.pn 2 rfl trivial ?_
          refine WpOps.consE (v := (.rop (cGLine y_2))) rfl rfl (Exact.ixr cGLine hy_2 rfl rfl rfl rfl (by kernel_rfl) (by decide)) ?_
          refine WpOps.pn 1 rfl trivial ?_
          refine WpOps.consE (v := (iA y_2.kind)) rfl rfl (Exact.load_rop rfl rfl rfl) ?_
          refine WpOps.pn 2 rfl trivial ?_
          refine WpOps.nil ?_
          obtain rfl := Sh.some_inj g_1
          exact ⟨rfl, rfl⟩
      intro env
      obtain ⟨b_2, g_2, h⟩ := Sh.bind_some h
      refine WpOps.cutB 9 36 (bA b_2) rfl ?_ ?_
      ·
        refine WpOps.pn 1 rfl trivial ?_
        refine WpOps.split 28 rfl (fun hb => ?_) (fun hb => ?_)
        ·
          replace g_2 := Sh.ite_pos hb g_2
          obtain ⟨y_3, hy_3, g_2⟩ := Sh.bind_some g_2
          refine WpOps.pn 2 rfl trivial ?_
          refine WpOps.consE (v := (.rop (cGLine y_3))) rfl rfl (Exact.ixr cGLine hy_3 rfl rfl rfl rfl (by kernel_rfl) (by decide)) ?_
          refine WpOps.pn 1 rfl trivial ?_
          refine WpOps.consE (v := (AV.rows 6 (List.map cGTok y_3.toks))) rfl rfl (Exact.load_rop rfl rfl rfl) ?_
          refine WpOps.pn 1 rfl trivial ?_
          refine WpOps.at 34 (len_map _ _) ?_
          refine WpOps.pn 2 rfl trivial ?_
          refine WpOps.nil ?_
          obtain rfl := Sh.some_inj g_2
          exact ⟨rfl, rfl⟩
        ·
          replace g_2 := Sh.ite_neg hb g_2
          refine WpOps.pn 8 rfl trivial ?_
          refine WpOps.nil ?_
          obtain rfl := Sh.some_inj g_2
          exact ⟨rfl, rfl⟩
      intro env
      obtain ⟨b_3, g_3, h⟩ := Sh.bind_some h
      refine WpOps.cutB 11 47 (bA b_3) rfl ?_ ?_
      ·
        refine WpOps.pn 1 rfl trivial ?_
        refine WpOps.split 37 rfl (fun hb => ?_) (fun hb => ?_)
        ·
          replace g_3 := Sh.ite_pos hb g_3
          obtain ⟨y_4, hy_4, g_3⟩ := Sh.bind_some g_3
          refine WpOps.pn 2 rfl trivial ?_
          refine WpOps.consE (v := (.rop (cGLine y_4))) rfl rfl (Exact.ixr cGLine hy_4 rfl rfl rfl rfl (by kernel_rfl) (by decide)) ?_
          refine WpOps.pn 1 rfl trivial ?_
          refine WpOps.consE (v := (AV.rows 6 (List.map cGTok y_4.toks))) rfl rfl (Exact.load_rop rfl rfl rfl) ?_
          obtain ⟨y_5, hy_5, g_3⟩ := Sh.bind_some g_3
          refine WpOps.consE (v := (.rop (cGTok y_5))) rfl rfl (Exact.ixr cGTok hy_5 rfl rfl rfl rfl (by kernel_rfl) (by decide)) ?_
          refine WpOps.pn 1 rfl trivial ?_
          refine WpOps.consE (v := (iA y_5.kind)) rfl rfl (Exact.load_rop rfl rfl rfl) ?_
          refine WpOps.pn 2 rfl trivial ?_
          refine WpOps.nil ?_
          obtain rfl := Sh.some_inj g_3
          exact ⟨rfl, rfl⟩
        ·
          replace g_3 := Sh.ite_neg hb g_3
          refine WpOps.pn 10 rfl trivial ?_
          refine WpOps.nil ?_
          obtain rfl := Sh.some_inj g_3
          exact ⟨rfl, rfl⟩
      intro env
      refine WpOps.nil ?_
      refine WpC.condB rfl (fun hb => ?_) (fun hb => ?_)
      ·
        replace h := Sh.ite_pos hb h
        refine WpC.regionD ?_
        obtain ⟨y_6, hy_6, h⟩ := Sh.bind_some h
        refine WpOps.pn 3 rfl trivial ?_
        refine WpOps.consE (v := (.rop (cGLine y_6))) rfl rfl (Exact.ixr cGLine hy_6 rfl rfl rfl rfl (by kernel_rfl) (by decide)) ?_
        refine WpOps.pn 1 rfl trivial ?_
        refine WpOps.consE (v := (AV.rows 6 (List.map cGTok y_6.toks))) rfl rfl (Exact.load_rop rfl rfl rfl) ?_
        obtain ⟨y_7, hy_7, h⟩ := Sh.bind_some h
        refine WpOps.consE (v := (.rop (cGTok y_7))) rfl rfl (Exact.ixr cGTok hy_7 rfl rfl rfl rfl (by kernel_rfl) (by decide)) ?_
        refine WpOps.pn 1 rfl trivial ?_
        refine WpOps.consE (v := (sA y_7.text)) rfl rfl (Exact.load_rop rfl rfl rfl) ?_
        obtain ⟨r_2, hr_2, h⟩ := Sh.bind_some h
        refine WpOps.consE (v := (AV.rows 1 (List.map cS r_2))) rfl rfl (Exact.call rfl rfl rfl (w_emendref11_Put hr_2)) ?_
        refine WpOps.pn 1 rfl trivial ?_
        refine WpOps.nil ?_
        refine ⟨_, Heap.le_refl _, ?_⟩
        refine WpC.regionD ?_
        obtain ⟨c_1, h⟩ := Sh.chk_some h
        refine WpOps.pn 3 rfl c_1 ?_
        refine WpOps.nil ?_
        obtain rfl := Sh.some_inj h
        exact ⟨_, (Heap.le_refl _), (r_2, (i_1 + (1 : Int))), (), rfl, ⟨rfl, rfl, rfl, trivial⟩, hH⟩
      ·
        replace h := Sh.ite_neg hb h
        refine WpC.skipD ?_
        refine ⟨_, Heap.le_refl _, ?_⟩
        refine WpC.regionD ?_
        obtain ⟨c_2, h⟩ := Sh.chk_some h
        refine WpOps.pn 3 rfl c_2 ?_
        refine WpOps.nil ?_
        obtain rfl := Sh.some_inj h
        exact ⟨_, (Heap.le_refl _), (out_1, (i_1 + (1 : Int))), (), rfl, ⟨rfl, rfl, rfl, trivial⟩, hH⟩
    ·
      replace h := Sh.ite_neg hb h
      obtain rfl := Sh.some_inj h
      have e := hd_1 _ rfl
      subst e
      refine WpC.exit ?_
      exact ⟨(out_1, ()), ⟨rfl, trivial⟩, hk_1, hH⟩
  ·
    rintro ⟨out_2, _⟩ env H' ⟨h, hH⟩
    try dsimp only at h
    refine ⟨_, Heap.le_refl _, ?_⟩
    refine WpC.seqR ?_
    refine WpOps.pn 2 rfl trivial ?_
    refine WpOps.nil ?_
    obtain rfl := Sh.some_inj h
    refine WpC.ret ?_
    exact VEnds.ret1 rfl rfl ⟨rfl, hH⟩
end Go.Proofs.YtdbcklichbiihaaDoor
