/-
  The code computes what the plain functions say. Printed by a tool.
-/
import Derived.Test.YtghnfeflknfclaaDoorT
import Derived.Test.YtghnfeflknfclaaDoorPe
import Derived.Test.YtghnfeflknfclaaDoorChecked
import Derived.Test.YtghnfeflknfclaaDoorLi
import Derived.Test.YtghnfeflknfclaaDoorCh
import Derived.Test.YtghnfeflknfclaaDoorPi
import Derived.Test.YtghnfeflknfclaaDoorTv
import Derived.Test.YtghnfeflknfclaaDoorDf
set_option linter.unusedVariables false
set_option linter.unusedSimpArgs false
set_option maxRecDepth 20000
set_option maxHeartbeats 8000000
namespace Go.Proofs.YtghnfeflknfclaaDoor
open Go Go.Vc Go.Sh
attribute [local irreducible] WpC WpOps WpPi WpO Exact TCall VEnds Sh.loopS DEnds
theorem ek25 : ElemOk Tryd.prog 25 38 6 56 := ElemOk.of (by kernel_rfl)
theorem ek42 : ElemOk Tryd.prog 42 9 1 16 := ElemOk.of (by kernel_rfl)
theorem ek58 : ElemOk Tryd.prog 58 67 2 16 := ElemOk.of (by kernel_rfl)
theorem w_emendref02_Join {H0 : Heap} {text_1 : List UInt8} {r : List GChar} (h : emendref02_Join text_1 = some r) : TCall Tryd.prog 47 [(sA text_1)] H0 (fun v H' => v = (AV.rows 2 (List.map cGChar r)) ∧ H' = H0) noE := by
  refine id (TCall.body Tryd.func47 rfl rfl ?_)
  have hH : Holds H0 [] H0 := rfl
  refine WpC.seqR ?_
  refine WpOps.pn 1 rfl trivial ?_
  refine WpOps.nil ?_
  refine WpC.seqR ?_
  refine WpOps.pn 1 rfl trivial ?_
  have hH := hH.nil 67 2
  refine WpOps.nil ?_
  refine WpC.seqR ?_
  refine WpOps.pn 1 rfl trivial ?_
  refine WpOps.nil ?_
  refine WpC.seqB (fun x : (List GChar) × ((Option (Nat × Nat))) => [(3, (.own (List.map cGChar x.1).length x.2))]) (fun x H' => emendref02_Join_j1 x.1 = some r ∧ Holds H0 [.own 67 2 x.2 (List.map cGChar x.1)] H') ?_ ?_
  ·
    obtain ⟨o_1, ho_1, hk_1⟩ := Sh.bind_some h
    refine WpC.loopS (emendref02_Join_b2 text_1) (fun (s : Int × List GChar) (a : (Option (Nat × Nat))) => [(0, (sA text_1)), (3, (.own (List.map cGChar s.2).length a)), (4, (iA s.1))]) (fun (s : Int × List GChar) (a : (Option (Nat × Nat))) H' => Holds H0 [.own 67 2 a (List.map cGChar s.2)] H') o_1 ((0 : Int), ([] : List GChar)) none ho_1 ⟨rfl, rfl, rfl, trivial⟩ hH ?_
    rintro ⟨i_1, out_1⟩ p_1 st_1 env H' h hd_1 hH
    refine WpC.seq ?_
    refine WpC.seqR ?_
    refine WpOps.pn 4 rfl trivial ?_
    refine WpOps.nil ?_
    refine WpC.condB rfl (fun hb => ?_) (fun hb => ?_)
    ·
      replace h := Sh.ite_pos hb h
      refine WpC.skipD ?_
      refine ⟨_, Heap.le_refl _, ?_⟩
      refine WpC.block ?_
      refine WpC.seq ?_
      refine WpC.seqR ?_
      obtain ⟨ch_1, hch_1, h⟩ := Sh.bind_some h
      refine WpOps.pn 2 rfl trivial ?_
      refine WpOps.consE (v := (u8A ch_1)) rfl rfl (Exact.ixs hch_1 rfl rfl rfl rfl) ?_
      refine WpOps.pn 1 rfl trivial ?_
      obtain ⟨b_1, g_1, h⟩ := Sh.bind_some h
      refine WpOps.cutB 7 19 (bA b_1) rfl ?_ ?_
      ·
        refine WpOps.pn 1 rfl trivial ?_
        refine WpOps.split 13 rfl (fun hb => ?_) (fun hb => ?_)
        ·
          replace g_1 := Sh.ite_pos hb g_1
          obtain ⟨c_1, g_1⟩ := Sh.chk_some g_1
          refine WpOps.pn 6 rfl c_1 ?_
          refine WpOps.nil ?_
          obtain rfl := Sh.some_inj g_1
          exact ⟨rfl, rfl⟩
        ·
          replace g_1 := Sh.ite_neg hb g_1
          refine WpOps.pn 6 rfl trivial ?_
          refine WpOps.nil ?_
          obtain rfl := Sh.some_inj g_1
          exact ⟨rfl, rfl⟩
      intro env
      obtain ⟨b_2, g_2, h⟩ := Sh.bind_some h
      refine WpOps.cutB 7 26 (bA b_2) rfl ?_ ?_
      ·
        refine WpOps.pn 1 rfl trivial ?_
        refine WpOps.split 20 rfl (fun hb => ?_) (fun hb => ?_)
        ·
          replace g_2 := Sh.ite_pos hb g_2
          obtain ⟨c_2, g_2⟩ := Sh.chk_some g_2
          obtain ⟨ch_2, hch_2, g_2⟩ := Sh.bind_some g_2
          refine WpOps.pn 3 rfl c_2 ?_
          refine WpOps.consE (v := (u8A ch_2)) rfl rfl (Exact.ixs hch_2 rfl rfl rfl rfl) ?_
          refine WpOps.pn 2 rfl trivial ?_
          refine WpOps.nil ?_
          obtain rfl := Sh.some_inj g_2
          exact ⟨rfl, rfl⟩
        ·
          replace g_2 := Sh.ite_neg hb g_2
          refine WpOps.pn 6 rfl trivial ?_
          refine WpOps.nil ?_
          obtain rfl := Sh.some_inj g_2
          exact ⟨rfl, rfl⟩
      intro env
      refine WpOps.nil ?_
      refine WpC.condB rfl (fun hb => ?_) (fun hb => ?_)
      ·
        replace h := Sh.ite_pos hb h
        refine WpC.seqR ?_
        obtain ⟨c_3, h⟩ := Sh.chk_some h
        refine WpOps.pn 3 rfl c_3 ?_
        refine WpOps.nil ?_
        refine WpC.exitD ?_
        obtain rfl := Sh.some_inj h
        exact ⟨_, (Heap.le_refl _), ((i_1 + (2 : Int)), out_1), p_1, rfl, ⟨rfl, rfl, rfl, trivial⟩, hH⟩
      ·
        replace h := Sh.ite_neg hb h
        refine WpC.skipD ?_
        refine ⟨_, Heap.le_refl _, ?_⟩
        refine WpC.seqR ?_
        obtain ⟨ch_3, hch_3, h⟩ := Sh.bind_some h
        refine WpOps.pn 3 rfl trivial ?_
        refine WpOps.consE (v := (u8A ch_3)) rfl rfl (Exact.ixs hch_3 rfl rfl rfl rfl) ?_
        refine WpOps.pn 2 rfl trivial ?_
        refine WpOps.consE (v := (AV.rows 2 (List.map cGChar ([(GChar.mk ch_3 i_1)] : List GChar)))) rfl rfl (Exact.litSlice rfl (by kernel_rfl)) ?_
        obtain ⟨c_4, h⟩ := Sh.chk_some h
        refine WpOps.consG rfl rfl (WpO.pushT cGChar out_1 ([(GChar.mk ch_3 i_1)] : List GChar) (i := 0) rfl ek58 hH rfl rfl rfl (.rows _) (fun y _ => one_cGChar y) (by simp) c_4 (by decide) fun p_2 H' hH => ?_)
        refine WpOps.pn 1 rfl trivial ?_
        refine WpOps.nil ?_
        refine WpC.regionD ?_
        obtain ⟨c_5, h⟩ := Sh.chk_some h
        refine WpOps.pn 3 rfl c_5 ?_
        refine WpOps.nil ?_
        obtain rfl := Sh.some_inj h
        exact ⟨_, (Heap.le_refl _), ((i_1 + (1 : Int)), (out_1 ++ ([(GChar.mk ch_3 i_1)] : List GChar))), p_2, rfl, ⟨rfl, rfl, rfl, trivial⟩, hH⟩
    ·
      replace h := Sh.ite_neg hb h
      obtain rfl := Sh.some_inj h
      have e := hd_1 _ rfl
      subst e
      refine WpC.exit ?_
      exact ⟨(out_1, p_1), ⟨rfl, trivial⟩, hk_1, hH⟩
  ·
    rintro ⟨out_2, p_3⟩ env H' ⟨h, hH⟩
    try dsimp only at h
    refine WpC.seqR ?_
    refine WpOps.pn 2 rfl trivial ?_
    refine WpOps.nil ?_
    refine WpC.freeze (t := 2) (i := 0) hH rfl rfl (fun H' hH => ?_)
    obtain rfl := Sh.some_inj h
    refine WpC.ret ?_
    exact VEnds.ret1 rfl rfl ⟨rfl, hH⟩

theorem w_emendref02_Text {H0 : Heap} {l_1 : List GChar} {r : List UInt8} (h : emendref02_Text l_1 = some r) : TCall Tryd.prog 48 [(AV.rows 2 (List.map cGChar l_1))] H0 (fun v H' => v = (sA r) ∧ H' = H0) noE := by
  refine id (TCall.body Tryd.func48 rfl rfl ?_)
  have hH : Holds H0 [] H0 := rfl
  refine WpC.seqR ?_
  refine WpOps.pn 1 rfl trivial ?_
  refine WpOps.nil ?_
  refine WpC.seqR ?_
  refine WpOps.pn 1 rfl trivial ?_
  refine WpOps.nil ?_
  refine WpC.seq ?_
  refine WpC.seqR ?_
  refine WpOps.pn 1 rfl trivial ?_
  refine WpOps.nil ?_
  refine WpC.blockK (fun x : (List UInt8) × (Unit) => [(3, (sA x.1))]) (fun x H' => emendref02_Text_j1 x.1 = some r ∧ Holds H0 [] H') ?_ ?_
  ·
    obtain ⟨o_1, ho_1, hk_1⟩ := Sh.bind_some h
    refine WpC.loopS (emendref02_Text_b2 l_1) (fun (s : List UInt8 × Int) (a : Unit) => [(0, (AV.rows 2 (List.map cGChar l_1))), (3, (sA s.1)), (4, (iA s.2))]) (fun (s : List UInt8 × Int) (a : Unit) H' => Holds H0 [] H') o_1 (([] : List UInt8), (0 : Int)) () ho_1 ⟨rfl, rfl, rfl, trivial⟩ hH ?_
    rintro ⟨s_1, i_1⟩ _ st_1 env H' h hd_1 hH
    refine WpC.seq ?_
    refine WpC.seqR ?_
    refine WpOps.pn 3 rfl trivial ?_
    refine WpOps.at 7 (len_map _ _) ?_
    refine WpOps.pn 1 rfl trivial ?_
    refine WpOps.nil ?_
    refine WpC.condB rfl (fun hb => ?_) (fun hb => ?_)
    ·
      replace h := Sh.ite_pos hb h
      refine WpC.skipD ?_
      refine ⟨_, Heap.le_refl _, ?_⟩
      refine WpC.seq ?_
      refine WpC.block ?_
      refine WpC.regionD ?_
      obtain ⟨y_1, hy_1, h⟩ := Sh.bind_some h
      refine WpOps.pn 3 rfl trivial ?_
      refine WpOps.consE (v := (.rop (cGChar y_1))) rfl rfl (Exact.ixr cGChar hy_1 rfl rfl rfl rfl (by kernel_rfl) (by decide)) ?_
      refine WpOps.pn 1 rfl trivial ?_
      refine WpOps.consE (v := (u8A y_1.b)) rfl rfl (Exact.load_rop rfl rfl rfl) ?_
      refine WpOps.consE (v := (AV.rows 1 (List.map cU ([y_1.b] : List UInt8)))) rfl rfl (Exact.litSlice rfl (by kernel_rfl)) ?_
      refine WpOps.consE (v := (sA ([y_1.b] : List UInt8))) rfl rfl (Exact.string_of_bytes (bs := ([y_1.b] : List UInt8)) rfl rfl rfl rfl rfl (.rows _)) ?_
      obtain ⟨c_1, h⟩ := Sh.chk_some h
      refine WpOps.pn 2 rfl c_1 ?_
      refine WpOps.nil ?_
      refine ⟨_, Heap.le_refl _, ?_⟩
      refine WpC.regionD ?_
      obtain ⟨c_2, h⟩ := Sh.chk_some h
      refine WpOps.pn 3 rfl c_2 ?_
      refine WpOps.nil ?_
      obtain rfl := Sh.some_inj h
      exact ⟨_, (Heap.le_refl _), ((s_1 ++ ([y_1.b] : List UInt8)), (i_1 + (1 : Int))), (), rfl, ⟨rfl, rfl, rfl, trivial⟩, hH⟩
    ·
      replace h := Sh.ite_neg hb h
      obtain rfl := Sh.some_inj h
      have e := hd_1 _ rfl
      subst e
      refine WpC.exit ?_
      exact ⟨(s_1, ()), ⟨rfl, trivial⟩, hk_1, hH⟩
  ·
    rintro ⟨s_2, _⟩ env H' ⟨h, hH⟩
    try dsimp only at h
    refine ⟨_, Heap.le_refl _, ?_⟩
    refine WpC.seqR ?_
    refine WpOps.pn 2 rfl trivial ?_
    refine WpOps.nil ?_
    obtain rfl := Sh.some_inj h
    refine WpC.ret ?_
    exact VEnds.ret1 rfl rfl ⟨rfl, hH⟩

theorem w_emendref03_is {H0 : Heap} {s_1 : List UInt8} {i_1 : Int} {t_1 : List UInt8} {r : Bool} (h : emendref03_is s_1 i_1 t_1 = some r) : TCall Tryd.prog 81 [(sA s_1), (iA i_1), (sA t_1)] H0 (fun v H' => v = (bA r) ∧ H' = H0) noE := by
  refine id (TCall.body Tryd.func81 rfl rfl ?_)
  have hH : Holds H0 [] H0 := rfl
  refine WpC.seqR ?_
  refine WpOps.pn 1 rfl trivial ?_
  refine WpOps.nil ?_
  refine WpC.seqR ?_
  obtain ⟨c_1, h⟩ := Sh.chk_some h
  refine WpOps.pn 7 rfl c_1 ?_
  obtain ⟨b_1, g_1, h⟩ := Sh.bind_some h
  refine WpOps.cutB 11 24 (bA b_1) rfl ?_ ?_
  ·
    refine WpOps.pn 1 rfl trivial ?_
    refine WpOps.split 14 rfl (fun hb => ?_) (fun hb => ?_)
    ·
      replace g_1 := Sh.ite_pos hb g_1
      obtain ⟨c_2, g_1⟩ := Sh.chk_some g_1
      obtain ⟨c_3, g_1⟩ := Sh.chk_some g_1
      refine WpOps.pn 6 rfl c_2 ?_
      refine WpOps.pn 1 rfl (show 0 ≤ i_1 ∧ 0 ≤ (i_1 + (t_1.length : Int)) ∧ ((i_1).toNat ≤ ((i_1 + (t_1.length : Int))).toNat ∧ ((i_1 + (t_1.length : Int))).toNat ≤ s_1.length) from ⟨(by omega), (by omega), (by omega)⟩) ?_
      refine WpOps.pn 3 rfl trivial ?_
      refine WpOps.nil ?_
      obtain rfl := Sh.some_inj g_1
      exact ⟨rfl, rfl⟩
    ·
      replace g_1 := Sh.ite_neg hb g_1
      refine WpOps.pn 10 rfl trivial ?_
      refine WpOps.nil ?_
      obtain rfl := Sh.some_inj g_1
      exact ⟨rfl, rfl⟩
  intro env
  refine WpOps.pn 1 rfl trivial ?_
  refine WpOps.nil ?_
  obtain rfl := Sh.some_inj h
  refine WpC.ret ?_
  exact VEnds.ret1 rfl rfl ⟨rfl, hH⟩

theorem w_emendref03_blank {H0 : Heap} {s_1 : List UInt8} {i_1 : Int} {r : Int} (h : emendref03_blank s_1 i_1 = some r) : TCall Tryd.prog 49 [(sA s_1), (iA i_1)] H0 (fun v H' => v = (iA r) ∧ H' = H0) noE := by
  refine id (TCall.body Tryd.func49 rfl rfl ?_)
  have hH : Holds H0 [] H0 := rfl
  refine WpC.seqR ?_
  refine WpOps.pn 1 rfl trivial ?_
  refine WpOps.nil ?_
  refine WpC.seq ?_
  refine WpC.seqR ?_
  obtain ⟨ch_1, hch_1, h⟩ := Sh.bind_some h
  refine WpOps.pn 2 rfl trivial ?_
  refine WpOps.consE (v := (u8A ch_1)) rfl rfl (Exact.ixs hch_1 rfl rfl rfl rfl) ?_
  refine WpOps.pn 1 rfl trivial ?_
  obtain ⟨b_1, g_1, h⟩ := Sh.bind_some h
  refine WpOps.cutB 6 18 (bA b_1) rfl ?_ ?_
  ·
    refine WpOps.pn 1 rfl trivial ?_
    refine WpOps.split 13 rfl (fun hb => ?_) (fun hb => ?_)
    ·
      replace g_1 := Sh.ite_pos hb g_1
      refine WpOps.pn 5 rfl trivial ?_
      refine WpOps.nil ?_
      obtain rfl := Sh.some_inj g_1
      exact ⟨rfl, rfl⟩
    ·
      replace g_1 := Sh.ite_neg hb g_1
      obtain ⟨ch_2, hch_2, g_1⟩ := Sh.bind_some g_1
      refine WpOps.pn 2 rfl trivial ?_
      refine WpOps.consE (v := (u8A ch_2)) rfl rfl (Exact.ixs hch_2 rfl rfl rfl rfl) ?_
      refine WpOps.pn 2 rfl trivial ?_
      refine WpOps.nil ?_
      obtain rfl := Sh.some_inj g_1
      exact ⟨rfl, rfl⟩
  intro env
  obtain ⟨b_2, g_2, h⟩ := Sh.bind_some h
  refine WpOps.cutB 12 30 (bA b_2) rfl ?_ ?_
  ·
    refine WpOps.pn 1 rfl trivial ?_
    refine WpOps.split 19 rfl (fun hb => ?_) (fun hb => ?_)
    ·
      replace g_2 := Sh.ite_pos hb g_2
      refine WpOps.pn 11 rfl trivial ?_
      refine WpOps.nil ?_
      obtain rfl := Sh.some_inj g_2
      exact ⟨rfl, rfl⟩
    ·
      replace g_2 := Sh.ite_neg hb g_2
      obtain ⟨ch_3, hch_3, g_2⟩ := Sh.bind_some g_2
      refine WpOps.pn 2 rfl trivial ?_
      refine WpOps.consE (v := (u8A ch_3)) rfl rfl (Exact.ixs hch_3 rfl rfl rfl rfl) ?_
      refine WpOps.pn 1 rfl trivial ?_
      obtain ⟨b_3, g_3, g_2⟩ := Sh.bind_some g_2
      refine WpOps.cutB 6 29 (bA b_3) rfl ?_ ?_
      ·
        refine WpOps.pn 1 rfl trivial ?_
        refine WpOps.split 24 rfl (fun hb => ?_) (fun hb => ?_)
        ·
          replace g_3 := Sh.ite_pos hb g_3
          obtain ⟨ch_4, hch_4, g_3⟩ := Sh.bind_some g_3
          refine WpOps.pn 2 rfl trivial ?_
          refine WpOps.consE (v := (u8A ch_4)) rfl rfl (Exact.ixs hch_4 rfl rfl rfl rfl) ?_
          refine WpOps.pn 2 rfl trivial ?_
          refine WpOps.nil ?_
          obtain rfl := Sh.some_inj g_3
          exact ⟨rfl, rfl⟩
        ·
          replace g_3 := Sh.ite_neg hb g_3
          refine WpOps.pn 5 rfl trivial ?_
          refine WpOps.nil ?_
          obtain rfl := Sh.some_inj g_3
          exact ⟨rfl, rfl⟩
      intro env
      refine WpOps.pn 1 rfl trivial ?_
      refine WpOps.nil ?_
      obtain rfl := Sh.some_inj g_2
      exact ⟨rfl, rfl⟩
  intro env
  refine WpOps.nil ?_
  refine WpC.condB rfl (fun hb => ?_) (fun hb => ?_)
  ·
    replace h := Sh.ite_pos hb h
    refine WpC.seqR ?_
    obtain ⟨c_1, h⟩ := Sh.chk_some h
    refine WpOps.pn 3 rfl c_1 ?_
    refine WpOps.nil ?_
    obtain rfl := Sh.some_inj h
    refine WpC.ret ?_
    exact VEnds.ret1 rfl rfl ⟨rfl, hH⟩
  ·
    replace h := Sh.ite_neg hb h
    refine WpC.skipD ?_
    refine ⟨_, Heap.le_refl _, ?_⟩
    refine WpC.seqR ?_
    obtain ⟨r_1, hr_1, h⟩ := Sh.bind_some h
    refine WpOps.pn 2 rfl trivial ?_
    refine WpOps.consE (v := (bA r_1)) rfl rfl (Exact.call rfl rfl rfl (w_emendref03_is hr_1)) ?_
    refine WpOps.pn 1 rfl trivial ?_
    refine WpOps.nil ?_
    refine WpC.seq ?_
    refine WpC.seqR ?_
    refine WpOps.pn 1 rfl trivial ?_
    refine WpOps.nil ?_
    refine WpC.condB rfl (fun hb => ?_) (fun hb => ?_)
    ·
      replace h := Sh.ite_pos hb h
      refine WpC.seqB (fun x : (Int) × (Unit) => [(1, (iA x.1))]) (fun x H' => emendref03_blank_j1 x.1 = some r ∧ Holds H0 [] H') ?_ ?_
      ·
        obtain ⟨o_1, ho_1, hk_1⟩ := Sh.bind_some h
        refine WpC.loopS (emendref03_blank_b2 s_1) (fun (s : Int) (a : Unit) => [(0, (sA s_1)), (1, (iA s))]) (fun (s : Int) (a : Unit) H' => Holds H0 [] H') o_1 i_1 () ho_1 ⟨rfl, rfl, trivial⟩ hH ?_
        rintro i_2 _ st_1 env H' h hd_1 hH
        refine WpC.seq ?_
        refine WpC.seqR ?_
        refine WpOps.pn 4 rfl trivial ?_
        obtain ⟨b_4, g_4, h⟩ := Sh.bind_some h
        refine WpOps.cutB 6 46 (bA b_4) rfl ?_ ?_
        ·
          refine WpOps.pn 1 rfl trivial ?_
          refine WpOps.split 41 rfl (fun hb => ?_) (fun hb => ?_)
          ·
            replace g_4 := Sh.ite_pos hb g_4
            obtain ⟨ch_5, hch_5, g_4⟩ := Sh.bind_some g_4
            refine WpOps.pn 2 rfl trivial ?_
            refine WpOps.consE (v := (u8A ch_5)) rfl rfl (Exact.ixs hch_5 rfl rfl rfl rfl) ?_
            refine WpOps.pn 2 rfl trivial ?_
            refine WpOps.nil ?_
            obtain rfl := Sh.some_inj g_4
            exact ⟨rfl, rfl⟩
          ·
            replace g_4 := Sh.ite_neg hb g_4
            refine WpOps.pn 5 rfl trivial ?_
            refine WpOps.nil ?_
            obtain rfl := Sh.some_inj g_4
            exact ⟨rfl, rfl⟩
        intro env
        refine WpOps.nil ?_
        refine WpC.condB rfl (fun hb => ?_) (fun hb => ?_)
        ·
          replace h := Sh.ite_pos hb h
          refine WpC.skipD ?_
          refine ⟨_, Heap.le_refl _, ?_⟩
          refine WpC.block ?_
          refine WpC.regionD ?_
          obtain ⟨c_2, h⟩ := Sh.chk_some h
          refine WpOps.pn 3 rfl c_2 ?_
          refine WpOps.nil ?_
          obtain rfl := Sh.some_inj h
          exact ⟨_, (Heap.le_refl _), (i_2 + (1 : Int)), (), rfl, ⟨rfl, rfl, trivial⟩, hH⟩
        ·
          replace h := Sh.ite_neg hb h
          obtain rfl := Sh.some_inj h
          have e := hd_1 _ rfl
          subst e
          refine WpC.exit ?_
          exact ⟨(i_2, ()), ⟨rfl, trivial⟩, hk_1, hH⟩
      ·
        rintro ⟨i_3, _⟩ env H' ⟨h, hH⟩
        try dsimp only at h
        refine WpC.seqR ?_
        refine WpOps.pn 2 rfl trivial ?_
        refine WpOps.nil ?_
        obtain rfl := Sh.some_inj h
        refine WpC.ret ?_
        exact VEnds.ret1 rfl rfl ⟨rfl, hH⟩
    ·
      replace h := Sh.ite_neg hb h
      refine WpC.skipD ?_
      refine ⟨_, Heap.le_refl _, ?_⟩
      refine WpC.seqR ?_
      obtain ⟨r_2, hr_2, h⟩ := Sh.bind_some h
      refine WpOps.pn 2 rfl trivial ?_
      refine WpOps.consE (v := (bA r_2)) rfl rfl (Exact.call rfl rfl rfl (w_emendref03_is hr_2)) ?_
      refine WpOps.pn 1 rfl trivial ?_
      refine WpOps.nil ?_
      refine WpC.seqK (fun x : (Unit) × (Unit) => [(1, (iA i_1))]) (fun x H' => (emendref03_blank_j3 i_1) x.1 = some r ∧ Holds H0 [] H') ?_ ?_
      ·
        refine WpC.seqR ?_
        refine WpOps.pn 1 rfl trivial ?_
        refine WpOps.nil ?_
        refine WpC.condB rfl (fun hb => ?_) (fun hb => ?_)
        ·
          replace h := Sh.ite_pos hb h
          refine WpC.seqR ?_
          obtain ⟨c_3, h⟩ := Sh.chk_some h
          refine WpOps.pn 3 rfl c_3 ?_
          refine WpOps.nil ?_
          refine WpC.blockK (fun x : (Unit) × (Unit) => [(1, (iA i_1))]) (fun x H' => (emendref03_blank_j4 i_1) x.1 = some r ∧ Holds H0 [] H') ?_ ?_
          ·
            obtain ⟨o_2, ho_2, hk_2⟩ := Sh.bind_some h
            refine WpC.loopS (emendref03_blank_b5 s_1) (fun (s : Int) (a : Unit) => [(0, (sA s_1)), (1, (iA i_1)), (7, (iA s))]) (fun (s : Int) (a : Unit) H' => Holds H0 [] H') o_2 (i_1 + (2 : Int)) () ho_2 ⟨rfl, rfl, rfl, trivial⟩ hH ?_
            rintro k_1 _ st_2 env H' h hd_2 hH
            refine WpC.seq ?_
            refine WpC.seqR ?_
            refine WpOps.pn 4 rfl trivial ?_
            refine WpOps.nil ?_
            refine WpC.condB rfl (fun hb => ?_) (fun hb => ?_)
            ·
              replace h := Sh.ite_pos hb h
              refine WpC.skipD ?_
              refine ⟨_, Heap.le_refl _, ?_⟩
              refine WpC.seq ?_
              refine WpC.block ?_
              refine WpC.seqR ?_
              obtain ⟨r_3, hr_3, h⟩ := Sh.bind_some h
              refine WpOps.pn 2 rfl trivial ?_
              refine WpOps.consE (v := (bA r_3)) rfl rfl (Exact.call rfl rfl rfl (w_emendref03_is hr_3)) ?_
              refine WpOps.pn 1 rfl trivial ?_
              refine WpOps.nil ?_
              refine WpC.seqR ?_
              refine WpOps.pn 1 rfl trivial ?_
              refine WpOps.nil ?_
              refine WpC.condB rfl (fun hb => ?_) (fun hb => ?_)
              ·
                replace h := Sh.ite_pos hb h
                refine WpC.seqR ?_
                obtain ⟨c_4, h⟩ := Sh.chk_some h
                refine WpOps.pn 3 rfl c_4 ?_
                refine WpOps.nil ?_
                obtain rfl := Sh.some_inj h
                have e := hd_2 _ rfl
                subst e
                have h := hk_2
                obtain rfl := Sh.some_inj h
                refine WpC.ret ?_
                exact VEnds.ret1 rfl rfl ⟨rfl, hH⟩
              ·
                replace h := Sh.ite_neg hb h
                refine WpC.skipD ?_
                refine ⟨_, Heap.le_refl _, ?_⟩
                refine WpC.regionD ?_
                obtain ⟨c_5, h⟩ := Sh.chk_some h
                refine WpOps.pn 3 rfl c_5 ?_
                refine WpOps.nil ?_
                obtain rfl := Sh.some_inj h
                exact ⟨_, (Heap.le_refl _), (k_1 + (1 : Int)), (), rfl, ⟨rfl, rfl, rfl, trivial⟩, hH⟩
            ·
              replace h := Sh.ite_neg hb h
              obtain rfl := Sh.some_inj h
              have e := hd_2 _ rfl
              subst e
              refine WpC.exit ?_
              exact ⟨((), ()), ⟨rfl, trivial⟩, hk_2, hH⟩
          ·
            rintro ⟨_, _⟩ env H' ⟨h, hH⟩
            try dsimp only at h
            exact ⟨_, (Heap.le_refl _), ((), ()), ⟨rfl, trivial⟩, h, hH⟩
        ·
          replace h := Sh.ite_neg hb h
          refine WpC.skipD ?_
          exact ⟨_, (Heap.le_refl _), ((), ()), ⟨rfl, trivial⟩, h, hH⟩
      ·
        rintro ⟨_, _⟩ env H' ⟨h, hH⟩
        try dsimp only at h
        refine WpC.seqR ?_
        refine WpOps.pn 2 rfl trivial ?_
        refine WpOps.nil ?_
        obtain rfl := Sh.some_inj h
        refine WpC.ret ?_
        exact VEnds.ret1 rfl rfl ⟨rfl, hH⟩

theorem w_emendref03_letter {H0 : Heap} {c_1 : UInt8} {r : Bool} (h : emendref03_letter c_1 = some r) : TCall Tryd.prog 99 [(u8A c_1)] H0 (fun v H' => v = (bA r) ∧ H' = H0) noE := by
  refine id (TCall.body Tryd.func99 rfl rfl ?_)
  have hH : Holds H0 [] H0 := rfl
  refine WpC.seqR ?_
  refine WpOps.pn 1 rfl trivial ?_
  refine WpOps.nil ?_
  refine WpC.seqR ?_
  refine WpOps.pn 2 rfl trivial ?_
  obtain ⟨b_1, g_1, h⟩ := Sh.bind_some h
  refine WpOps.cutB 8 12 (bA b_1) rfl ?_ ?_
  ·
    refine WpOps.pn 1 rfl trivial ?_
    refine WpOps.split 5 rfl (fun hb => ?_) (fun hb => ?_)
    ·
      replace g_1 := Sh.ite_pos hb g_1
      refine WpOps.pn 7 rfl trivial ?_
      refine WpOps.nil ?_
      obtain rfl := Sh.some_inj g_1
      exact ⟨rfl, rfl⟩
    ·
      replace g_1 := Sh.ite_neg hb g_1
      refine WpOps.pn 2 rfl trivial ?_
      obtain ⟨b_2, g_2, g_1⟩ := Sh.bind_some g_1
      refine WpOps.cutB 4 11 (bA b_2) rfl ?_ ?_
      ·
        refine WpOps.pn 1 rfl trivial ?_
        refine WpOps.split 8 rfl (fun hb => ?_) (fun hb => ?_)
        ·
          replace g_2 := Sh.ite_pos hb g_2
          refine WpOps.pn 3 rfl trivial ?_
          refine WpOps.nil ?_
          obtain rfl := Sh.some_inj g_2
          exact ⟨rfl, rfl⟩
        ·
          replace g_2 := Sh.ite_neg hb g_2
          refine WpOps.pn 3 rfl trivial ?_
          refine WpOps.nil ?_
          obtain rfl := Sh.some_inj g_2
          exact ⟨rfl, rfl⟩
      intro env
      refine WpOps.pn 1 rfl trivial ?_
      refine WpOps.nil ?_
      obtain rfl := Sh.some_inj g_1
      exact ⟨rfl, rfl⟩
  intro env
  obtain ⟨b_3, g_3, h⟩ := Sh.bind_some h
  refine WpOps.cutB 8 20 (bA b_3) rfl ?_ ?_
  ·
    refine WpOps.pn 1 rfl trivial ?_
    refine WpOps.split 13 rfl (fun hb => ?_) (fun hb => ?_)
    ·
      replace g_3 := Sh.ite_pos hb g_3
      refine WpOps.pn 7 rfl trivial ?_
      refine WpOps.nil ?_
      obtain rfl := Sh.some_inj g_3
      exact ⟨rfl, rfl⟩
    ·
      replace g_3 := Sh.ite_neg hb g_3
      refine WpOps.pn 2 rfl trivial ?_
      obtain ⟨b_4, g_4, g_3⟩ := Sh.bind_some g_3
      refine WpOps.cutB 4 19 (bA b_4) rfl ?_ ?_
      ·
        refine WpOps.pn 1 rfl trivial ?_
        refine WpOps.split 16 rfl (fun hb => ?_) (fun hb => ?_)
        ·
          replace g_4 := Sh.ite_pos hb g_4
          refine WpOps.pn 3 rfl trivial ?_
          refine WpOps.nil ?_
          obtain rfl := Sh.some_inj g_4
          exact ⟨rfl, rfl⟩
        ·
          replace g_4 := Sh.ite_neg hb g_4
          refine WpOps.pn 3 rfl trivial ?_
          refine WpOps.nil ?_
          obtain rfl := Sh.some_inj g_4
          exact ⟨rfl, rfl⟩
      intro env
      refine WpOps.pn 1 rfl trivial ?_
      refine WpOps.nil ?_
      obtain rfl := Sh.some_inj g_3
      exact ⟨rfl, rfl⟩
  intro env
  refine WpOps.pn 1 rfl trivial ?_
  refine WpOps.nil ?_
  obtain rfl := Sh.some_inj h
  refine WpC.ret ?_
  exact VEnds.ret1 rfl rfl ⟨rfl, hH⟩

theorem w_emendref03_digit {H0 : Heap} {c_1 : UInt8} {r : Bool} (h : emendref03_digit c_1 = some r) : TCall Tryd.prog 100 [(u8A c_1)] H0 (fun v H' => v = (bA r) ∧ H' = H0) noE := by
  refine id (TCall.body Tryd.func100 rfl rfl ?_)
  have hH : Holds H0 [] H0 := rfl
  refine WpC.seqR ?_
  refine WpOps.pn 1 rfl trivial ?_
  refine WpOps.nil ?_
  refine WpC.seqR ?_
  refine WpOps.pn 2 rfl trivial ?_
  obtain ⟨b_1, g_1, h⟩ := Sh.bind_some h
  refine WpOps.cutB 4 8 (bA b_1) rfl ?_ ?_
  ·
    refine WpOps.pn 1 rfl trivial ?_
    refine WpOps.split 5 rfl (fun hb => ?_) (fun hb => ?_)
    ·
      replace g_1 := Sh.ite_pos hb g_1
      refine WpOps.pn 3 rfl trivial ?_
      refine WpOps.nil ?_
      obtain rfl := Sh.some_inj g_1
      exact ⟨rfl, rfl⟩
    ·
      replace g_1 := Sh.ite_neg hb g_1
      refine WpOps.pn 3 rfl trivial ?_
      refine WpOps.nil ?_
      obtain rfl := Sh.some_inj g_1
      exact ⟨rfl, rfl⟩
  intro env
  refine WpOps.pn 1 rfl trivial ?_
  refine WpOps.nil ?_
  obtain rfl := Sh.some_inj h
  refine WpC.ret ?_
  exact VEnds.ret1 rfl rfl ⟨rfl, hH⟩

theorem w_emendref03_word {H0 : Heap} {s_1 : List UInt8} {i_1 : Int} {r : Int} (h : emendref03_word s_1 i_1 = some r) : TCall Tryd.prog 82 [(sA s_1), (iA i_1)] H0 (fun v H' => v = (iA r) ∧ H' = H0) noE := by
  refine id (TCall.body Tryd.func82 rfl rfl ?_)
  have hH : Holds H0 [] H0 := rfl
  refine WpC.seqR ?_
  refine WpOps.pn 1 rfl trivial ?_
  refine WpOps.nil ?_
  refine WpC.seqR ?_
  refine WpOps.pn 1 rfl trivial ?_
  refine WpOps.nil ?_
  refine WpC.seqB (fun x : (Int) × (Unit) => [(5, (iA x.1))]) (fun x H' => emendref03_word_j1 x.1 = some r ∧ Holds H0 [] H') ?_ ?_
  ·
    obtain ⟨o_1, ho_1, hk_1⟩ := Sh.bind_some h
    refine WpC.loopS (emendref03_word_b2 s_1 i_1) (fun (s : Int) (a : Unit) => [(0, (sA s_1)), (1, (iA i_1)), (5, (iA s))]) (fun (s : Int) (a : Unit) H' => Holds H0 [] H') o_1 (0 : Int) () ho_1 ⟨rfl, rfl, rfl, trivial⟩ hH ?_
    rintro n_1 _ st_1 env H' h hd_1 hH
    refine WpC.seq ?_
    refine WpC.seqR ?_
    obtain ⟨c_1, h⟩ := Sh.chk_some h
    refine WpOps.pn 6 rfl c_1 ?_
    obtain ⟨b_1, g_1, h⟩ := Sh.bind_some h
    refine WpOps.cutB 20 31 (bA b_1) rfl ?_ ?_
    ·
      refine WpOps.pn 1 rfl trivial ?_
      refine WpOps.split 12 rfl (fun hb => ?_) (fun hb => ?_)
      ·
        replace g_1 := Sh.ite_pos hb g_1
        obtain ⟨c_2, g_1⟩ := Sh.chk_some g_1
        obtain ⟨ch_1, hch_1, g_1⟩ := Sh.bind_some g_1
        refine WpOps.pn 4 rfl c_2 ?_
        refine WpOps.consE (v := (u8A ch_1)) rfl rfl (Exact.ixs hch_1 rfl rfl rfl rfl) ?_
        obtain ⟨r_1, hr_1, g_1⟩ := Sh.bind_some g_1
        refine WpOps.consE (v := (bA r_1)) rfl rfl (Exact.call rfl rfl rfl (w_emendref03_letter hr_1)) ?_
        obtain ⟨b_2, g_2, g_1⟩ := Sh.bind_some g_1
        refine WpOps.cutB 12 30 (bA b_2) rfl ?_ ?_
        ·
          refine WpOps.pn 1 rfl trivial ?_
          refine WpOps.split 19 rfl (fun hb => ?_) (fun hb => ?_)
          ·
            replace g_2 := Sh.ite_pos hb g_2
            refine WpOps.pn 11 rfl trivial ?_
            refine WpOps.nil ?_
            obtain rfl := Sh.some_inj g_2
            exact ⟨rfl, rfl⟩
          ·
            replace g_2 := Sh.ite_neg hb g_2
            refine WpOps.pn 2 rfl trivial ?_
            obtain ⟨b_3, g_3, g_2⟩ := Sh.bind_some g_2
            refine WpOps.cutB 8 29 (bA b_3) rfl ?_ ?_
            ·
              refine WpOps.pn 1 rfl trivial ?_
              refine WpOps.split 22 rfl (fun hb => ?_) (fun hb => ?_)
              ·
                replace g_3 := Sh.ite_pos hb g_3
                obtain ⟨c_3, g_3⟩ := Sh.chk_some g_3
                obtain ⟨ch_2, hch_2, g_3⟩ := Sh.bind_some g_3
                refine WpOps.pn 4 rfl c_3 ?_
                refine WpOps.consE (v := (u8A ch_2)) rfl rfl (Exact.ixs hch_2 rfl rfl rfl rfl) ?_
                obtain ⟨r_2, hr_2, g_3⟩ := Sh.bind_some g_3
                refine WpOps.consE (v := (bA r_2)) rfl rfl (Exact.call rfl rfl rfl (w_emendref03_digit hr_2)) ?_
                refine WpOps.pn 1 rfl trivial ?_
                refine WpOps.nil ?_
                obtain rfl := Sh.some_inj g_3
                exact ⟨rfl, rfl⟩
              ·
                replace g_3 := Sh.ite_neg hb g_3
                refine WpOps.pn 7 rfl trivial ?_
                refine WpOps.nil ?_
                obtain rfl := Sh.some_inj g_3
                exact ⟨rfl, rfl⟩
            intro env
            refine WpOps.pn 1 rfl trivial ?_
            refine WpOps.nil ?_
            obtain rfl := Sh.some_inj g_2
            exact ⟨rfl, rfl⟩
        intro env
        refine WpOps.pn 1 rfl trivial ?_
        refine WpOps.nil ?_
        obtain rfl := Sh.some_inj g_1
        exact ⟨rfl, rfl⟩
      ·
        replace g_1 := Sh.ite_neg hb g_1
        refine WpOps.pn 19 rfl trivial ?_
        refine WpOps.nil ?_
        obtain rfl := Sh.some_inj g_1
        exact ⟨rfl, rfl⟩
    intro env
    refine WpOps.nil ?_
    refine WpC.condB rfl (fun hb => ?_) (fun hb => ?_)
    ·
      replace h := Sh.ite_pos hb h
      refine WpC.skipD ?_
      refine ⟨_, Heap.le_refl _, ?_⟩
      refine WpC.block ?_
      refine WpC.regionD ?_
      obtain ⟨c_4, h⟩ := Sh.chk_some h
      refine WpOps.pn 3 rfl c_4 ?_
      refine WpOps.nil ?_
      obtain rfl := Sh.some_inj h
      exact ⟨_, (Heap.le_refl _), (n_1 + (1 : Int)), (), rfl, ⟨rfl, rfl, rfl, trivial⟩, hH⟩
    ·
      replace h := Sh.ite_neg hb h
      obtain rfl := Sh.some_inj h
      have e := hd_1 _ rfl
      subst e
      refine WpC.exit ?_
      exact ⟨(n_1, ()), ⟨rfl, trivial⟩, hk_1, hH⟩
  ·
    rintro ⟨n_2, _⟩ env H' ⟨h, hH⟩
    try dsimp only at h
    refine WpC.seqR ?_
    refine WpOps.pn 2 rfl trivial ?_
    refine WpOps.nil ?_
    obtain rfl := Sh.some_inj h
    refine WpC.ret ?_
    exact VEnds.ret1 rfl rfl ⟨rfl, hH⟩

theorem w_emendref03_number {H0 : Heap} {s_1 : List UInt8} {i_1 : Int} {r : Int} (h : emendref03_number s_1 i_1 = some r) : TCall Tryd.prog 83 [(sA s_1), (iA i_1)] H0 (fun v H' => v = (iA r) ∧ H' = H0) noE := by
  refine id (TCall.body Tryd.func83 rfl rfl ?_)
  have hH : Holds H0 [] H0 := rfl
  refine WpC.seqR ?_
  refine WpOps.pn 1 rfl trivial ?_
  refine WpOps.nil ?_
  refine WpC.seqR ?_
  obtain ⟨ch_1, hch_1, h⟩ := Sh.bind_some h
  refine WpOps.pn 2 rfl trivial ?_
  refine WpOps.consE (v := (u8A ch_1)) rfl rfl (Exact.ixs hch_1 rfl rfl rfl rfl) ?_
  obtain ⟨r_1, hr_1, h⟩ := Sh.bind_some h
  refine WpOps.consE (v := (bA r_1)) rfl rfl (Exact.call rfl rfl rfl (w_emendref03_digit hr_1)) ?_
  refine WpOps.pn 1 rfl trivial ?_
  refine WpOps.nil ?_
  refine WpC.seq ?_
  refine WpC.seqR ?_
  refine WpOps.pn 2 rfl trivial ?_
  obtain ⟨b_1, g_1, h⟩ := Sh.bind_some h
  refine WpOps.cutB 21 35 (bA b_1) rfl ?_ ?_
  ·
    refine WpOps.pn 1 rfl trivial ?_
    refine WpOps.split 15 rfl (fun hb => ?_) (fun hb => ?_)
    ·
      replace g_1 := Sh.ite_pos hb g_1
      obtain ⟨ch_2, hch_2, g_1⟩ := Sh.bind_some g_1
      refine WpOps.pn 2 rfl trivial ?_
      refine WpOps.consE (v := (u8A ch_2)) rfl rfl (Exact.ixs hch_2 rfl rfl rfl rfl) ?_
      refine WpOps.pn 1 rfl trivial ?_
      obtain ⟨b_2, g_2, g_1⟩ := Sh.bind_some g_1
      refine WpOps.cutB 7 26 (bA b_2) rfl ?_ ?_
      ·
        refine WpOps.pn 1 rfl trivial ?_
        refine WpOps.split 20 rfl (fun hb => ?_) (fun hb => ?_)
        ·
          replace g_2 := Sh.ite_pos hb g_2
          obtain ⟨c_1, g_2⟩ := Sh.chk_some g_2
          refine WpOps.pn 6 rfl c_1 ?_
          refine WpOps.nil ?_
          obtain rfl := Sh.some_inj g_2
          exact ⟨rfl, rfl⟩
        ·
          replace g_2 := Sh.ite_neg hb g_2
          refine WpOps.pn 6 rfl trivial ?_
          refine WpOps.nil ?_
          obtain rfl := Sh.some_inj g_2
          exact ⟨rfl, rfl⟩
      intro env
      obtain ⟨b_3, g_3, g_1⟩ := Sh.bind_some g_1
      refine WpOps.cutB 7 33 (bA b_3) rfl ?_ ?_
      ·
        refine WpOps.pn 1 rfl trivial ?_
        refine WpOps.split 27 rfl (fun hb => ?_) (fun hb => ?_)
        ·
          replace g_3 := Sh.ite_pos hb g_3
          obtain ⟨c_2, g_3⟩ := Sh.chk_some g_3
          obtain ⟨ch_3, hch_3, g_3⟩ := Sh.bind_some g_3
          refine WpOps.pn 3 rfl c_2 ?_
          refine WpOps.consE (v := (u8A ch_3)) rfl rfl (Exact.ixs hch_3 rfl rfl rfl rfl) ?_
          obtain ⟨r_2, hr_2, g_3⟩ := Sh.bind_some g_3
          refine WpOps.consE (v := (bA r_2)) rfl rfl (Exact.call rfl rfl rfl (w_emendref03_digit hr_2)) ?_
          refine WpOps.pn 1 rfl trivial ?_
          refine WpOps.nil ?_
          obtain rfl := Sh.some_inj g_3
          exact ⟨rfl, rfl⟩
        ·
          replace g_3 := Sh.ite_neg hb g_3
          refine WpOps.pn 6 rfl trivial ?_
          refine WpOps.nil ?_
          obtain rfl := Sh.some_inj g_3
          exact ⟨rfl, rfl⟩
      intro env
      refine WpOps.pn 2 rfl trivial ?_
      refine WpOps.nil ?_
      obtain rfl := Sh.some_inj g_1
      exact ⟨rfl, rfl⟩
    ·
      replace g_1 := Sh.ite_neg hb g_1
      refine WpOps.pn 20 rfl trivial ?_
      refine WpOps.nil ?_
      obtain rfl := Sh.some_inj g_1
      exact ⟨rfl, rfl⟩
  intro env
  refine WpOps.nil ?_
  refine WpC.condB rfl (fun hb => ?_) (fun hb => ?_)
  ·
    replace h := Sh.ite_pos hb h
    refine WpC.seqR ?_
    refine WpOps.pn 1 rfl trivial ?_
    refine WpOps.nil ?_
    obtain rfl := Sh.some_inj h
    refine WpC.ret ?_
    exact VEnds.ret1 rfl rfl ⟨rfl, hH⟩
  ·
    replace h := Sh.ite_neg hb h
    refine WpC.skipD ?_
    refine ⟨_, Heap.le_refl _, ?_⟩
    refine WpC.seqR ?_
    refine WpOps.pn 1 rfl trivial ?_
    refine WpOps.nil ?_
    refine WpC.seqB (fun x : (Int) × (Unit) => [(6, (iA x.1))]) (fun x H' => emendref03_number_j1 x.1 = some r ∧ Holds H0 [] H') ?_ ?_
    ·
      obtain ⟨o_1, ho_1, hk_1⟩ := Sh.bind_some h
      refine WpC.loopS (emendref03_number_b2 s_1 i_1) (fun (s : Int) (a : Unit) => [(0, (sA s_1)), (1, (iA i_1)), (6, (iA s))]) (fun (s : Int) (a : Unit) H' => Holds H0 [] H') o_1 (1 : Int) () ho_1 ⟨rfl, rfl, rfl, trivial⟩ hH ?_
      rintro n_1 _ st_1 env H' h hd_1 hH
      refine WpC.seq ?_
      refine WpC.seqR ?_
      obtain ⟨c_3, h⟩ := Sh.chk_some h
      refine WpOps.pn 6 rfl c_3 ?_
      refine WpOps.nil ?_
      refine WpC.condB rfl (fun hb => ?_) (fun hb => ?_)
      ·
        replace h := Sh.ite_pos hb h
        refine WpC.skipD ?_
        refine ⟨_, Heap.le_refl _, ?_⟩
        refine WpC.block ?_
        refine WpC.seqR ?_
        obtain ⟨c_4, h⟩ := Sh.chk_some h
        obtain ⟨ch_4, hch_4, h⟩ := Sh.bind_some h
        refine WpOps.pn 4 rfl c_4 ?_
        refine WpOps.consE (v := (u8A ch_4)) rfl rfl (Exact.ixs hch_4 rfl rfl rfl rfl) ?_
        refine WpOps.pn 1 rfl trivial ?_
        refine WpOps.nil ?_
        refine WpC.seqR ?_
        obtain ⟨c_5, h⟩ := Sh.chk_some h
        obtain ⟨c_6, h⟩ := Sh.chk_some h
        refine WpOps.pn 7 rfl ⟨c_6, c_5⟩ ?_
        obtain ⟨b_4, g_4, h⟩ := Sh.bind_some h
        refine WpOps.cutB 18 71 (bA b_4) rfl ?_ ?_
        ·
          refine WpOps.pn 1 rfl trivial ?_
          refine WpOps.split 54 rfl (fun hb => ?_) (fun hb => ?_)
          ·
            replace g_4 := Sh.ite_pos hb g_4
            obtain ⟨c_7, g_4⟩ := Sh.chk_some g_4
            obtain ⟨c_8, g_4⟩ := Sh.chk_some g_4
            obtain ⟨ch_5, hch_5, g_4⟩ := Sh.bind_some g_4
            refine WpOps.pn 5 rfl ⟨c_8, c_7⟩ ?_
            refine WpOps.consE (v := (u8A ch_5)) rfl rfl (Exact.ixs hch_5 rfl rfl rfl rfl) ?_
            refine WpOps.pn 1 rfl trivial ?_
            obtain ⟨b_5, g_5, g_4⟩ := Sh.bind_some g_4
            refine WpOps.cutB 9 70 (bA b_5) rfl ?_ ?_
            ·
              refine WpOps.pn 1 rfl trivial ?_
              refine WpOps.split 62 rfl (fun hb => ?_) (fun hb => ?_)
              ·
                replace g_5 := Sh.ite_pos hb g_5
                refine WpOps.pn 8 rfl trivial ?_
                refine WpOps.nil ?_
                obtain rfl := Sh.some_inj g_5
                exact ⟨rfl, rfl⟩
              ·
                replace g_5 := Sh.ite_neg hb g_5
                obtain ⟨c_9, g_5⟩ := Sh.chk_some g_5
                obtain ⟨c_10, g_5⟩ := Sh.chk_some g_5
                obtain ⟨ch_6, hch_6, g_5⟩ := Sh.bind_some g_5
                refine WpOps.pn 5 rfl ⟨c_10, c_9⟩ ?_
                refine WpOps.consE (v := (u8A ch_6)) rfl rfl (Exact.ixs hch_6 rfl rfl rfl rfl) ?_
                refine WpOps.pn 2 rfl trivial ?_
                refine WpOps.nil ?_
                obtain rfl := Sh.some_inj g_5
                exact ⟨rfl, rfl⟩
            intro env
            refine WpOps.pn 1 rfl trivial ?_
            refine WpOps.nil ?_
            obtain rfl := Sh.some_inj g_4
            exact ⟨rfl, rfl⟩
          ·
            replace g_4 := Sh.ite_neg hb g_4
            refine WpOps.pn 17 rfl trivial ?_
            refine WpOps.nil ?_
            obtain rfl := Sh.some_inj g_4
            exact ⟨rfl, rfl⟩
        intro env
        refine WpOps.pn 1 rfl trivial ?_
        refine WpOps.nil ?_
        refine WpC.seq ?_
        refine WpC.seqR ?_
        refine WpOps.pn 2 rfl trivial ?_
        obtain ⟨b_6, g_6, h⟩ := Sh.bind_some h
        refine WpOps.cutB 4 77 (bA b_6) rfl ?_ ?_
        ·
          refine WpOps.pn 1 rfl trivial ?_
          refine WpOps.split 74 rfl (fun hb => ?_) (fun hb => ?_)
          ·
            replace g_6 := Sh.ite_pos hb g_6
            refine WpOps.pn 3 rfl trivial ?_
            refine WpOps.nil ?_
            obtain rfl := Sh.some_inj g_6
            exact ⟨rfl, rfl⟩
          ·
            replace g_6 := Sh.ite_neg hb g_6
            refine WpOps.pn 3 rfl trivial ?_
            refine WpOps.nil ?_
            obtain rfl := Sh.some_inj g_6
            exact ⟨rfl, rfl⟩
        intro env
        obtain ⟨b_7, g_7, h⟩ := Sh.bind_some h
        refine WpOps.cutB 4 81 (bA b_7) rfl ?_ ?_
        ·
          refine WpOps.pn 1 rfl trivial ?_
          refine WpOps.split 78 rfl (fun hb => ?_) (fun hb => ?_)
          ·
            replace g_7 := Sh.ite_pos hb g_7
            refine WpOps.pn 3 rfl trivial ?_
            refine WpOps.nil ?_
            obtain rfl := Sh.some_inj g_7
            exact ⟨rfl, rfl⟩
          ·
            replace g_7 := Sh.ite_neg hb g_7
            refine WpOps.pn 3 rfl trivial ?_
            refine WpOps.nil ?_
            obtain rfl := Sh.some_inj g_7
            exact ⟨rfl, rfl⟩
        intro env
        obtain ⟨b_8, g_8, h⟩ := Sh.bind_some h
        refine WpOps.cutB 4 85 (bA b_8) rfl ?_ ?_
        ·
          refine WpOps.pn 1 rfl trivial ?_
          refine WpOps.split 82 rfl (fun hb => ?_) (fun hb => ?_)
          ·
            replace g_8 := Sh.ite_pos hb g_8
            refine WpOps.pn 3 rfl trivial ?_
            refine WpOps.nil ?_
            obtain rfl := Sh.some_inj g_8
            exact ⟨rfl, rfl⟩
          ·
            replace g_8 := Sh.ite_neg hb g_8
            refine WpOps.pn 3 rfl trivial ?_
            refine WpOps.nil ?_
            obtain rfl := Sh.some_inj g_8
            exact ⟨rfl, rfl⟩
        intro env
        obtain ⟨b_9, g_9, h⟩ := Sh.bind_some h
        refine WpOps.cutB 3 88 (bA b_9) rfl ?_ ?_
        ·
          refine WpOps.pn 1 rfl trivial ?_
          refine WpOps.split 86 rfl (fun hb => ?_) (fun hb => ?_)
          ·
            replace g_9 := Sh.ite_pos hb g_9
            refine WpOps.pn 2 rfl trivial ?_
            refine WpOps.nil ?_
            obtain rfl := Sh.some_inj g_9
            exact ⟨rfl, rfl⟩
          ·
            replace g_9 := Sh.ite_neg hb g_9
            refine WpOps.pn 2 rfl trivial ?_
            refine WpOps.nil ?_
            obtain rfl := Sh.some_inj g_9
            exact ⟨rfl, rfl⟩
        intro env
        refine WpOps.nil ?_
        refine WpC.condB rfl (fun hb => ?_) (fun hb => ?_)
        ·
          replace h := Sh.ite_pos hb h
          refine WpC.seqR ?_
          obtain ⟨c_11, h⟩ := Sh.chk_some h
          refine WpOps.pn 3 rfl c_11 ?_
          refine WpOps.nil ?_
          refine WpC.exitD ?_
          obtain rfl := Sh.some_inj h
          exact ⟨_, (Heap.le_refl _), (n_1 + (2 : Int)), (), rfl, ⟨rfl, rfl, rfl, trivial⟩, hH⟩
        ·
          replace h := Sh.ite_neg hb h
          refine WpC.skipD ?_
          refine ⟨_, Heap.le_refl _, ?_⟩
          refine WpC.seq ?_
          refine WpC.seqR ?_
          obtain ⟨r_3, hr_3, h⟩ := Sh.bind_some h
          refine WpOps.pn 1 rfl trivial ?_
          refine WpOps.consE (v := (bA r_3)) rfl rfl (Exact.call rfl rfl rfl (w_emendref03_letter hr_3)) ?_
          refine WpOps.pn 1 rfl trivial ?_
          obtain ⟨b_10, g_10, h⟩ := Sh.bind_some h
          refine WpOps.cutB 5 98 (bA b_10) rfl ?_ ?_
          ·
            refine WpOps.pn 1 rfl trivial ?_
            refine WpOps.split 94 rfl (fun hb => ?_) (fun hb => ?_)
            ·
              replace g_10 := Sh.ite_pos hb g_10
              obtain ⟨r_4, hr_4, g_10⟩ := Sh.bind_some g_10
              refine WpOps.pn 1 rfl trivial ?_
              refine WpOps.consE (v := (bA r_4)) rfl rfl (Exact.call rfl rfl rfl (w_emendref03_digit hr_4)) ?_
              refine WpOps.pn 2 rfl trivial ?_
              refine WpOps.nil ?_
              obtain rfl := Sh.some_inj g_10
              exact ⟨rfl, rfl⟩
            ·
              replace g_10 := Sh.ite_neg hb g_10
              refine WpOps.pn 4 rfl trivial ?_
              refine WpOps.nil ?_
              obtain rfl := Sh.some_inj g_10
              exact ⟨rfl, rfl⟩
          intro env
          obtain ⟨b_11, g_11, h⟩ := Sh.bind_some h
          refine WpOps.cutB 4 102 (bA b_11) rfl ?_ ?_
          ·
            refine WpOps.pn 1 rfl trivial ?_
            refine WpOps.split 99 rfl (fun hb => ?_) (fun hb => ?_)
            ·
              replace g_11 := Sh.ite_pos hb g_11
              refine WpOps.pn 3 rfl trivial ?_
              refine WpOps.nil ?_
              obtain rfl := Sh.some_inj g_11
              exact ⟨rfl, rfl⟩
            ·
              replace g_11 := Sh.ite_neg hb g_11
              refine WpOps.pn 3 rfl trivial ?_
              refine WpOps.nil ?_
              obtain rfl := Sh.some_inj g_11
              exact ⟨rfl, rfl⟩
          intro env
          refine WpOps.nil ?_
          refine WpC.condB rfl (fun hb => ?_) (fun hb => ?_)
          ·
            replace h := Sh.ite_pos hb h
            obtain rfl := Sh.some_inj h
            have e := hd_1 _ rfl
            subst e
            refine WpC.exit ?_
            exact ⟨(n_1, ()), ⟨rfl, trivial⟩, hk_1, hH⟩
          ·
            replace h := Sh.ite_neg hb h
            refine WpC.skipD ?_
            refine ⟨_, Heap.le_refl _, ?_⟩
            refine WpC.regionD ?_
            obtain ⟨c_12, h⟩ := Sh.chk_some h
            refine WpOps.pn 3 rfl c_12 ?_
            refine WpOps.nil ?_
            obtain rfl := Sh.some_inj h
            exact ⟨_, (Heap.le_refl _), (n_1 + (1 : Int)), (), rfl, ⟨rfl, rfl, rfl, trivial⟩, hH⟩
      ·
        replace h := Sh.ite_neg hb h
        obtain rfl := Sh.some_inj h
        have e := hd_1 _ rfl
        subst e
        refine WpC.exit ?_
        exact ⟨(n_1, ()), ⟨rfl, trivial⟩, hk_1, hH⟩
    ·
      rintro ⟨n_2, _⟩ env H' ⟨h, hH⟩
      try dsimp only at h
      refine WpC.seqR ?_
      refine WpOps.pn 2 rfl trivial ?_
      refine WpOps.nil ?_
      obtain rfl := Sh.some_inj h
      refine WpC.ret ?_
      exact VEnds.ret1 rfl rfl ⟨rfl, hH⟩

theorem w_emendref03_quoted {H0 : Heap} {s_1 : List UInt8} {i_1 : Int} {quote_1 : UInt8} {r : Int} (h : emendref03_quoted s_1 i_1 quote_1 = some r) : TCall Tryd.prog 84 [(sA s_1), (iA i_1), (u8A quote_1)] H0 (fun v H' => v = (iA r) ∧ H' = H0) noE := by
  refine id (TCall.body Tryd.func84 rfl rfl ?_)
  have hH : Holds H0 [] H0 := rfl
  refine WpC.seqR ?_
  refine WpOps.pn 1 rfl trivial ?_
  refine WpOps.nil ?_
  refine WpC.seq ?_
  refine WpC.seqR ?_
  obtain ⟨ch_1, hch_1, h⟩ := Sh.bind_some h
  refine WpOps.pn 2 rfl trivial ?_
  refine WpOps.consE (v := (u8A ch_1)) rfl rfl (Exact.ixs hch_1 rfl rfl rfl rfl) ?_
  refine WpOps.pn 2 rfl trivial ?_
  refine WpOps.nil ?_
  refine WpC.condB rfl (fun hb => ?_) (fun hb => ?_)
  ·
    replace h := Sh.ite_pos hb h
    refine WpC.seqR ?_
    refine WpOps.pn 1 rfl trivial ?_
    refine WpOps.nil ?_
    obtain rfl := Sh.some_inj h
    refine WpC.ret ?_
    exact VEnds.ret1 rfl rfl ⟨rfl, hH⟩
  ·
    replace h := Sh.ite_neg hb h
    refine WpC.skipD ?_
    refine ⟨_, Heap.le_refl _, ?_⟩
    refine WpC.seqR ?_
    refine WpOps.pn 1 rfl trivial ?_
    refine WpOps.nil ?_
    refine WpC.seqB (fun x : (Unit) × (Unit) => []) (fun x H' => emendref03_quoted_j1 x.1 = some r ∧ Holds H0 [] H') ?_ ?_
    ·
      obtain ⟨o_1, ho_1, hk_1⟩ := Sh.bind_some h
      refine WpC.loopS (emendref03_quoted_b2 s_1 i_1 quote_1) (fun (s : Int) (a : Unit) => [(0, (sA s_1)), (1, (iA i_1)), (2, (u8A quote_1)), (7, (iA s))]) (fun (s : Int) (a : Unit) H' => Holds H0 [] H') o_1 (1 : Int) () ho_1 ⟨rfl, rfl, rfl, rfl, trivial⟩ hH ?_
      rintro n_1 _ st_1 env H' h hd_1 hH
      refine WpC.seq ?_
      refine WpC.seqR ?_
      obtain ⟨c_1, h⟩ := Sh.chk_some h
      refine WpOps.pn 6 rfl c_1 ?_
      obtain ⟨b_1, g_1, h⟩ := Sh.bind_some h
      refine WpOps.cutB 8 26 (bA b_1) rfl ?_ ?_
      ·
        refine WpOps.pn 1 rfl trivial ?_
        refine WpOps.split 19 rfl (fun hb => ?_) (fun hb => ?_)
        ·
          replace g_1 := Sh.ite_pos hb g_1
          obtain ⟨c_2, g_1⟩ := Sh.chk_some g_1
          obtain ⟨ch_2, hch_2, g_1⟩ := Sh.bind_some g_1
          refine WpOps.pn 4 rfl c_2 ?_
          refine WpOps.consE (v := (u8A ch_2)) rfl rfl (Exact.ixs hch_2 rfl rfl rfl rfl) ?_
          refine WpOps.pn 2 rfl trivial ?_
          refine WpOps.nil ?_
          obtain rfl := Sh.some_inj g_1
          exact ⟨rfl, rfl⟩
        ·
          replace g_1 := Sh.ite_neg hb g_1
          refine WpOps.pn 7 rfl trivial ?_
          refine WpOps.nil ?_
          obtain rfl := Sh.some_inj g_1
          exact ⟨rfl, rfl⟩
      intro env
      refine WpOps.nil ?_
      refine WpC.condB rfl (fun hb => ?_) (fun hb => ?_)
      ·
        replace h := Sh.ite_pos hb h
        refine WpC.skipD ?_
        refine ⟨_, Heap.le_refl _, ?_⟩
        refine WpC.block ?_
        refine WpC.seq ?_
        refine WpC.seqR ?_
        obtain ⟨c_3, h⟩ := Sh.chk_some h
        obtain ⟨ch_3, hch_3, h⟩ := Sh.bind_some h
        refine WpOps.pn 4 rfl c_3 ?_
        refine WpOps.consE (v := (u8A ch_3)) rfl rfl (Exact.ixs hch_3 rfl rfl rfl rfl) ?_
        refine WpOps.pn 2 rfl trivial ?_
        refine WpOps.nil ?_
        refine WpC.condB rfl (fun hb => ?_) (fun hb => ?_)
        ·
          replace h := Sh.ite_pos hb h
          refine WpC.seq ?_
          refine WpC.seqR ?_
          refine WpOps.pn 2 rfl trivial ?_
          obtain ⟨b_2, g_2, h⟩ := Sh.bind_some h
          refine WpOps.cutB 4 39 (bA b_2) rfl ?_ ?_
          ·
            refine WpOps.pn 1 rfl trivial ?_
            refine WpOps.split 36 rfl (fun hb => ?_) (fun hb => ?_)
            ·
              replace g_2 := Sh.ite_pos hb g_2
              refine WpOps.pn 3 rfl trivial ?_
              refine WpOps.nil ?_
              obtain rfl := Sh.some_inj g_2
              exact ⟨rfl, rfl⟩
            ·
              replace g_2 := Sh.ite_neg hb g_2
              refine WpOps.pn 3 rfl trivial ?_
              refine WpOps.nil ?_
              obtain rfl := Sh.some_inj g_2
              exact ⟨rfl, rfl⟩
          intro env
          refine WpOps.nil ?_
          refine WpC.condB rfl (fun hb => ?_) (fun hb => ?_)
          ·
            replace h := Sh.ite_pos hb h
            refine WpC.seqR ?_
            refine WpOps.pn 1 rfl trivial ?_
            refine WpOps.nil ?_
            obtain rfl := Sh.some_inj h
            have e := hd_1 _ rfl
            subst e
            have h := hk_1
            obtain rfl := Sh.some_inj h
            refine WpC.ret ?_
            exact VEnds.ret1 rfl rfl ⟨rfl, hH⟩
          ·
            replace h := Sh.ite_neg hb h
            refine WpC.skipD ?_
            refine ⟨_, Heap.le_refl _, ?_⟩
            refine WpC.seqR ?_
            obtain ⟨c_4, h⟩ := Sh.chk_some h
            refine WpOps.pn 3 rfl c_4 ?_
            refine WpOps.nil ?_
            obtain rfl := Sh.some_inj h
            have e := hd_1 _ rfl
            subst e
            have h := hk_1
            obtain rfl := Sh.some_inj h
            refine WpC.ret ?_
            exact VEnds.ret1 rfl rfl ⟨rfl, hH⟩
        ·
          replace h := Sh.ite_neg hb h
          refine WpC.skipD ?_
          refine ⟨_, Heap.le_refl _, ?_⟩
          refine WpC.seq ?_
          refine WpC.seqR ?_
          obtain ⟨c_5, h⟩ := Sh.chk_some h
          obtain ⟨ch_4, hch_4, h⟩ := Sh.bind_some h
          refine WpOps.pn 4 rfl c_5 ?_
          refine WpOps.consE (v := (u8A ch_4)) rfl rfl (Exact.ixs hch_4 rfl rfl rfl rfl) ?_
          refine WpOps.pn 1 rfl trivial ?_
          refine WpOps.nil ?_
          refine WpC.condB rfl (fun hb => ?_) (fun hb => ?_)
          ·
            replace h := Sh.ite_pos hb h
            refine WpC.seqR ?_
            obtain ⟨c_6, h⟩ := Sh.chk_some h
            refine WpOps.pn 3 rfl c_6 ?_
            refine WpOps.nil ?_
            refine WpC.seqR ?_
            obtain ⟨c_7, h⟩ := Sh.chk_some h
            refine WpOps.pn 6 rfl c_7 ?_
            obtain ⟨b_3, g_3, h⟩ := Sh.bind_some h
            refine WpOps.cutB 8 63 (bA b_3) rfl ?_ ?_
            ·
              refine WpOps.pn 1 rfl trivial ?_
              refine WpOps.split 56 rfl (fun hb => ?_) (fun hb => ?_)
              ·
                replace g_3 := Sh.ite_pos hb g_3
                refine WpOps.pn 7 rfl trivial ?_
                refine WpOps.nil ?_
                obtain rfl := Sh.some_inj g_3
                exact ⟨rfl, rfl⟩
              ·
                replace g_3 := Sh.ite_neg hb g_3
                obtain ⟨c_8, g_3⟩ := Sh.chk_some g_3
                obtain ⟨ch_5, hch_5, g_3⟩ := Sh.bind_some g_3
                refine WpOps.pn 4 rfl c_8 ?_
                refine WpOps.consE (v := (u8A ch_5)) rfl rfl (Exact.ixs hch_5 rfl rfl rfl rfl) ?_
                refine WpOps.pn 2 rfl trivial ?_
                refine WpOps.nil ?_
                obtain rfl := Sh.some_inj g_3
                exact ⟨rfl, rfl⟩
            intro env
            refine WpOps.nil ?_
            refine WpC.condB rfl (fun hb => ?_) (fun hb => ?_)
            ·
              replace h := Sh.ite_pos hb h
              refine WpC.seqR ?_
              refine WpOps.pn 1 rfl trivial ?_
              refine WpOps.nil ?_
              obtain rfl := Sh.some_inj h
              have e := hd_1 _ rfl
              subst e
              have h := hk_1
              obtain rfl := Sh.some_inj h
              refine WpC.ret ?_
              exact VEnds.ret1 rfl rfl ⟨rfl, hH⟩
            ·
              replace h := Sh.ite_neg hb h
              refine WpC.skipD ?_
              refine ⟨_, Heap.le_refl _, ?_⟩
              refine WpC.regionD ?_
              obtain ⟨c_9, h⟩ := Sh.chk_some h
              refine WpOps.pn 3 rfl c_9 ?_
              refine WpOps.nil ?_
              obtain rfl := Sh.some_inj h
              exact ⟨_, (Heap.le_refl _), ((n_1 + (1 : Int)) + (1 : Int)), (), rfl, ⟨rfl, rfl, rfl, rfl, trivial⟩, hH⟩
          ·
            replace h := Sh.ite_neg hb h
            refine WpC.skipD ?_
            refine ⟨_, Heap.le_refl _, ?_⟩
            refine WpC.regionD ?_
            obtain ⟨c_10, h⟩ := Sh.chk_some h
            refine WpOps.pn 3 rfl c_10 ?_
            refine WpOps.nil ?_
            obtain rfl := Sh.some_inj h
            exact ⟨_, (Heap.le_refl _), (n_1 + (1 : Int)), (), rfl, ⟨rfl, rfl, rfl, rfl, trivial⟩, hH⟩
      ·
        replace h := Sh.ite_neg hb h
        obtain rfl := Sh.some_inj h
        have e := hd_1 _ rfl
        subst e
        refine WpC.exit ?_
        exact ⟨((), ()), trivial, hk_1, hH⟩
    ·
      rintro ⟨_, _⟩ env H' ⟨h, hH⟩
      try dsimp only at h
      refine WpC.seqR ?_
      refine WpOps.pn 1 rfl trivial ?_
      refine WpOps.nil ?_
      obtain rfl := Sh.some_inj h
      refine WpC.ret ?_
      exact VEnds.ret1 rfl rfl ⟨rfl, hH⟩

theorem w_emendref03_sign {H0 : Heap} {s_1 : List UInt8} {i_1 : Int} {r : Int} (h : emendref03_sign s_1 i_1 = some r) : TCall Tryd.prog 85 [(sA s_1), (iA i_1)] H0 (fun v H' => v = (iA r) ∧ H' = H0) noE := by
  refine id (TCall.body Tryd.func85 rfl rfl ?_)
  have hH : Holds H0 [] H0 := rfl
  refine WpC.seqR ?_
  refine WpOps.pn 1 rfl trivial ?_
  refine WpOps.nil ?_
  refine WpC.seqR ?_
  refine WpOps.consE (v := (AV.rows 1 (List.map cS ([([46, 46, 46] : List UInt8), ([60, 60, 61] : List UInt8), ([62, 62, 61] : List UInt8)] : List (List UInt8))))) rfl rfl (Exact.litSlice rfl (by kernel_rfl)) ?_
  refine WpOps.pn 1 rfl trivial ?_
  refine WpOps.nil ?_
  refine WpC.seqR ?_
  refine WpOps.consE (v := (AV.rows 1 (List.map cS emendref03_sign_l0))) rfl rfl (Exact.litSlice rfl (by kernel_rfl)) ?_
  refine WpOps.pn 1 rfl trivial ?_
  refine WpOps.nil ?_
  refine WpC.seqR ?_
  refine WpOps.pn 1 rfl trivial ?_
  refine WpOps.nil ?_
  refine WpC.seq ?_
  refine WpC.seqR ?_
  refine WpOps.pn 1 rfl trivial ?_
  refine WpOps.nil ?_
  refine WpC.blockK (fun x : (Unit) × (Unit) => [(0, (sA s_1)), (1, (iA i_1)), (6, (AV.rows 1 (List.map cS emendref03_sign_l0))), (7, (sA emendref03_sign_l1))]) (fun x H' => (emendref03_sign_j1 s_1 i_1) x.1 = some r ∧ Holds H0 [] H') ?_ ?_
  ·
    obtain ⟨o_1, ho_1, hk_1⟩ := Sh.bind_some h
    refine WpC.loopS (emendref03_sign_b2 s_1 i_1) (fun (s : Int) (a : Unit) => [(0, (sA s_1)), (1, (iA i_1)), (5, (AV.rows 1 (List.map cS ([([46, 46, 46] : List UInt8), ([60, 60, 61] : List UInt8), ([62, 62, 61] : List UInt8)] : List (List UInt8))))), (6, (AV.rows 1 (List.map cS emendref03_sign_l0))), (7, (sA emendref03_sign_l1)), (8, (iA s))]) (fun (s : Int) (a : Unit) H' => Holds H0 [] H') o_1 (0 : Int) () ho_1 ⟨rfl, rfl, rfl, rfl, rfl, rfl, trivial⟩ hH ?_
    rintro k_1 _ st_1 env H' h hd_1 hH
    refine WpC.seq ?_
    refine WpC.seqR ?_
    refine WpOps.pn 3 rfl trivial ?_
    refine WpOps.at 17 (len_map _ _) ?_
    refine WpOps.pn 1 rfl trivial ?_
    refine WpOps.nil ?_
    refine WpC.condB rfl (fun hb => ?_) (fun hb => ?_)
    ·
      replace h := Sh.ite_pos hb h
      refine WpC.skipD ?_
      refine ⟨_, Heap.le_refl _, ?_⟩
      refine WpC.seq ?_
      refine WpC.block ?_
      refine WpC.seqR ?_
      obtain ⟨y_1, hy_1, h⟩ := Sh.bind_some h
      refine WpOps.pn 4 rfl trivial ?_
      refine WpOps.consE (v := (.rop (cS y_1))) rfl rfl (Exact.ixr cS hy_1 rfl rfl rfl rfl (by kernel_rfl) (by decide)) ?_
      refine WpOps.consE (v := (sA y_1)) rfl rfl (Exact.load_rop rfl rfl rfl) ?_
      obtain ⟨r_1, hr_1, h⟩ := Sh.bind_some h
      refine WpOps.consE (v := (bA r_1)) rfl rfl (Exact.call rfl rfl rfl (w_emendref03_is hr_1)) ?_
      refine WpOps.pn 1 rfl trivial ?_
      refine WpOps.nil ?_
      refine WpC.seqR ?_
      refine WpOps.pn 1 rfl trivial ?_
      refine WpOps.nil ?_
      refine WpC.condB rfl (fun hb => ?_) (fun hb => ?_)
      ·
        replace h := Sh.ite_pos hb h
        refine WpC.seqR ?_
        refine WpOps.pn 1 rfl trivial ?_
        refine WpOps.nil ?_
        obtain rfl := Sh.some_inj h
        have e := hd_1 _ rfl
        subst e
        have h := hk_1
        obtain rfl := Sh.some_inj h
        refine WpC.ret ?_
        exact VEnds.ret1 rfl rfl ⟨rfl, hH⟩
      ·
        replace h := Sh.ite_neg hb h
        refine WpC.skipD ?_
        refine ⟨_, Heap.le_refl _, ?_⟩
        refine WpC.regionD ?_
        obtain ⟨c_1, h⟩ := Sh.chk_some h
        refine WpOps.pn 3 rfl c_1 ?_
        refine WpOps.nil ?_
        obtain rfl := Sh.some_inj h
        exact ⟨_, (Heap.le_refl _), (k_1 + (1 : Int)), (), rfl, ⟨rfl, rfl, rfl, rfl, rfl, rfl, trivial⟩, hH⟩
    ·
      replace h := Sh.ite_neg hb h
      obtain rfl := Sh.some_inj h
      have e := hd_1 _ rfl
      subst e
      refine WpC.exit ?_
      exact ⟨((), ()), ⟨rfl, rfl, rfl, rfl, trivial⟩, hk_1, hH⟩
  ·
    rintro ⟨_, _⟩ env H' ⟨h, hH⟩
    try dsimp only at h
    refine ⟨_, Heap.le_refl _, ?_⟩
    refine WpC.seq ?_
    refine WpC.seqR ?_
    refine WpOps.pn 1 rfl trivial ?_
    refine WpOps.nil ?_
    refine WpC.blockK (fun x : (Unit) × (Unit) => [(0, (sA s_1)), (1, (iA i_1)), (7, (sA emendref03_sign_l1))]) (fun x H' => (emendref03_sign_j3 s_1 i_1) x.1 = some r ∧ Holds H0 [] H') ?_ ?_
    ·
      obtain ⟨o_2, ho_2, hk_2⟩ := Sh.bind_some h
      refine WpC.loopS (emendref03_sign_b4 s_1 i_1) (fun (s : Int) (a : Unit) => [(0, (sA s_1)), (1, (iA i_1)), (6, (AV.rows 1 (List.map cS emendref03_sign_l0))), (7, (sA emendref03_sign_l1)), (10, (iA s))]) (fun (s : Int) (a : Unit) H' => Holds H0 [] H') o_2 (0 : Int) () ho_2 ⟨rfl, rfl, rfl, rfl, rfl, trivial⟩ hH ?_
      rintro k_2 _ st_2 env H' h hd_2 hH
      refine WpC.seq ?_
      refine WpC.seqR ?_
      refine WpOps.pn 3 rfl trivial ?_
      refine WpOps.at 31 (len_map _ _) ?_
      refine WpOps.pn 1 rfl trivial ?_
      refine WpOps.nil ?_
      refine WpC.condB rfl (fun hb => ?_) (fun hb => ?_)
      ·
        replace h := Sh.ite_pos hb h
        refine WpC.skipD ?_
        refine ⟨_, Heap.le_refl _, ?_⟩
        refine WpC.seq ?_
        refine WpC.block ?_
        refine WpC.seqR ?_
        obtain ⟨y_2, hy_2, h⟩ := Sh.bind_some h
        refine WpOps.pn 4 rfl trivial ?_
        refine WpOps.consE (v := (.rop (cS y_2))) rfl rfl (Exact.ixr cS hy_2 rfl rfl rfl rfl (by kernel_rfl) (by decide)) ?_
        refine WpOps.consE (v := (sA y_2)) rfl rfl (Exact.load_rop rfl rfl rfl) ?_
        obtain ⟨r_2, hr_2, h⟩ := Sh.bind_some h
        refine WpOps.consE (v := (bA r_2)) rfl rfl (Exact.call rfl rfl rfl (w_emendref03_is hr_2)) ?_
        refine WpOps.pn 1 rfl trivial ?_
        refine WpOps.nil ?_
        refine WpC.seqR ?_
        refine WpOps.pn 1 rfl trivial ?_
        refine WpOps.nil ?_
        refine WpC.condB rfl (fun hb => ?_) (fun hb => ?_)
        ·
          replace h := Sh.ite_pos hb h
          refine WpC.seqR ?_
          refine WpOps.pn 1 rfl trivial ?_
          refine WpOps.nil ?_
          obtain rfl := Sh.some_inj h
          have e := hd_2 _ rfl
          subst e
          have h := hk_2
          obtain rfl := Sh.some_inj h
          refine WpC.ret ?_
          exact VEnds.ret1 rfl rfl ⟨rfl, hH⟩
        ·
          replace h := Sh.ite_neg hb h
          refine WpC.skipD ?_
          refine ⟨_, Heap.le_refl _, ?_⟩
          refine WpC.regionD ?_
          obtain ⟨c_2, h⟩ := Sh.chk_some h
          refine WpOps.pn 3 rfl c_2 ?_
          refine WpOps.nil ?_
          obtain rfl := Sh.some_inj h
          exact ⟨_, (Heap.le_refl _), (k_2 + (1 : Int)), (), rfl, ⟨rfl, rfl, rfl, rfl, rfl, trivial⟩, hH⟩
      ·
        replace h := Sh.ite_neg hb h
        obtain rfl := Sh.some_inj h
        have e := hd_2 _ rfl
        subst e
        refine WpC.exit ?_
        exact ⟨((), ()), ⟨rfl, rfl, rfl, trivial⟩, hk_2, hH⟩
    ·
      rintro ⟨_, _⟩ env H' ⟨h, hH⟩
      try dsimp only at h
      refine ⟨_, Heap.le_refl _, ?_⟩
      refine WpC.seq ?_
      refine WpC.seqR ?_
      refine WpOps.pn 1 rfl trivial ?_
      refine WpOps.nil ?_
      refine WpC.blockK (fun x : (Unit) × (Unit) => []) (fun x H' => emendref03_sign_j5 x.1 = some r ∧ Holds H0 [] H') ?_ ?_
      ·
        obtain ⟨o_3, ho_3, hk_3⟩ := Sh.bind_some h
        refine WpC.loopS (emendref03_sign_b6 s_1 i_1) (fun (s : Int) (a : Unit) => [(0, (sA s_1)), (1, (iA i_1)), (7, (sA emendref03_sign_l1)), (12, (iA s))]) (fun (s : Int) (a : Unit) H' => Holds H0 [] H') o_3 (0 : Int) () ho_3 ⟨rfl, rfl, rfl, rfl, trivial⟩ hH ?_
        rintro k_3 _ st_3 env H' h hd_3 hH
        refine WpC.seq ?_
        refine WpC.seqR ?_
        refine WpOps.pn 4 rfl trivial ?_
        refine WpOps.nil ?_
        refine WpC.condB rfl (fun hb => ?_) (fun hb => ?_)
        ·
          replace h := Sh.ite_pos hb h
          refine WpC.skipD ?_
          refine ⟨_, Heap.le_refl _, ?_⟩
          refine WpC.seq ?_
          refine WpC.block ?_
          refine WpC.seqD [] [0, 1, 2, 3, 4, 5, 6] (by kernel_rfl) (by kernel_rfl) ?_
          obtain ⟨ch_1, hch_1, h⟩ := Sh.bind_some h
          refine WpPi.pn 2 rfl trivial ?_
          refine WpPi.consI (v := (u8A ch_1)) rfl rfl rfl rfl (fun _ => Exact.ixs hch_1 rfl rfl rfl rfl) ?_
          obtain ⟨ch_2, hch_2, h⟩ := Sh.bind_some h
          refine WpPi.pn 2 rfl trivial ?_
          refine WpPi.consI (v := (u8A ch_2)) rfl rfl rfl rfl (fun _ => Exact.ixs hch_2 rfl rfl rfl rfl) ?_
          refine WpPi.pn 1 rfl trivial ?_
          refine WpPi.nil ?_
          refine WpC.condB rfl (fun hb => ?_) (fun hb => ?_)
          ·
            replace h := Sh.ite_pos hb h
            refine WpC.seqR ?_
            refine WpOps.pn 1 rfl trivial ?_
            refine WpOps.nil ?_
            obtain rfl := Sh.some_inj h
            have e := hd_3 _ rfl
            subst e
            have h := hk_3
            obtain rfl := Sh.some_inj h
            refine WpC.ret ?_
            exact VEnds.ret1 rfl rfl ⟨rfl, hH⟩
          ·
            replace h := Sh.ite_neg hb h
            refine WpC.skipD ?_
            refine ⟨_, Heap.le_refl _, ?_⟩
            refine WpC.regionD ?_
            obtain ⟨c_3, h⟩ := Sh.chk_some h
            refine WpOps.pn 3 rfl c_3 ?_
            refine WpOps.nil ?_
            obtain rfl := Sh.some_inj h
            exact ⟨_, (Heap.le_refl _), (k_3 + (1 : Int)), (), rfl, ⟨rfl, rfl, rfl, rfl, trivial⟩, hH⟩
        ·
          replace h := Sh.ite_neg hb h
          obtain rfl := Sh.some_inj h
          have e := hd_3 _ rfl
          subst e
          refine WpC.exit ?_
          exact ⟨((), ()), trivial, hk_3, hH⟩
      ·
        rintro ⟨_, _⟩ env H' ⟨h, hH⟩
        try dsimp only at h
        refine ⟨_, Heap.le_refl _, ?_⟩
        refine WpC.seqR ?_
        refine WpOps.pn 1 rfl trivial ?_
        refine WpOps.nil ?_
        obtain rfl := Sh.some_inj h
        refine WpC.ret ?_
        exact VEnds.ret1 rfl rfl ⟨rfl, hH⟩

theorem w_emendref03_next {H0 : Heap} {s_1 : List UInt8} {i_1 : Int} {r : Int × Int} (h : emendref03_next s_1 i_1 = some r) : TCall Tryd.prog 50 [(sA s_1), (iA i_1)] H0 (fun v H' => v = (.tup [(iA r.1), (iA r.2)]) ∧ H' = H0) noE := by
  refine id (TCall.body Tryd.func50 rfl rfl ?_)
  have hH : Holds H0 [] H0 := rfl
  refine WpC.seqR ?_
  refine WpOps.pn 2 rfl trivial ?_
  refine WpOps.nil ?_
  refine WpC.seq ?_
  refine WpC.seqR ?_
  obtain ⟨ch_1, hch_1, h⟩ := Sh.bind_some h
  refine WpOps.pn 2 rfl trivial ?_
  refine WpOps.consE (v := (u8A ch_1)) rfl rfl (Exact.ixs hch_1 rfl rfl rfl rfl) ?_
  refine WpOps.pn 1 rfl trivial ?_
  refine WpOps.nil ?_
  refine WpC.condB rfl (fun hb => ?_) (fun hb => ?_)
  ·
    replace h := Sh.ite_pos hb h
    refine WpC.seqR ?_
    refine WpOps.pn 2 rfl trivial ?_
    refine WpOps.nil ?_
    obtain rfl := Sh.some_inj h
    refine WpC.ret ?_
    exact VEnds.ret2 rfl rfl rfl ⟨rfl, hH⟩
  ·
    replace h := Sh.ite_neg hb h
    refine WpC.skipD ?_
    refine ⟨_, Heap.le_refl _, ?_⟩
    refine WpC.seqR ?_
    obtain ⟨r_1, hr_1, h⟩ := Sh.bind_some h
    refine WpOps.pn 2 rfl trivial ?_
    refine WpOps.consE (v := (iA r_1)) rfl rfl (Exact.call rfl rfl rfl (w_emendref03_word hr_1)) ?_
    refine WpOps.pn 1 rfl trivial ?_
    refine WpOps.nil ?_
    refine WpC.seq ?_
    refine WpC.seqR ?_
    refine WpOps.pn 2 rfl trivial ?_
    refine WpOps.nil ?_
    refine WpC.condB rfl (fun hb => ?_) (fun hb => ?_)
    ·
      replace h := Sh.ite_pos hb h
      refine WpC.seqR ?_
      refine WpOps.pn 3 rfl trivial ?_
      refine WpOps.nil ?_
      obtain rfl := Sh.some_inj h
      refine WpC.ret ?_
      exact VEnds.ret2 rfl rfl rfl ⟨rfl, hH⟩
    ·
      replace h := Sh.ite_neg hb h
      refine WpC.skipD ?_
      refine ⟨_, Heap.le_refl _, ?_⟩
      refine WpC.seqR ?_
      obtain ⟨r_2, hr_2, h⟩ := Sh.bind_some h
      refine WpOps.pn 2 rfl trivial ?_
      refine WpOps.consE (v := (iA r_2)) rfl rfl (Exact.call rfl rfl rfl (w_emendref03_number hr_2)) ?_
      refine WpOps.pn 1 rfl trivial ?_
      refine WpOps.nil ?_
      refine WpC.seq ?_
      refine WpC.seqR ?_
      refine WpOps.pn 2 rfl trivial ?_
      refine WpOps.nil ?_
      refine WpC.condB rfl (fun hb => ?_) (fun hb => ?_)
      ·
        replace h := Sh.ite_pos hb h
        refine WpC.seqR ?_
        refine WpOps.pn 3 rfl trivial ?_
        refine WpOps.nil ?_
        obtain rfl := Sh.some_inj h
        refine WpC.ret ?_
        exact VEnds.ret2 rfl rfl rfl ⟨rfl, hH⟩
      ·
        replace h := Sh.ite_neg hb h
        refine WpC.skipD ?_
        refine ⟨_, Heap.le_refl _, ?_⟩
        refine WpC.seqR ?_
        obtain ⟨r_3, hr_3, h⟩ := Sh.bind_some h
        refine WpOps.pn 2 rfl trivial ?_
        refine WpOps.consE (v := (iA r_3)) rfl rfl (Exact.call rfl rfl rfl (w_emendref03_quoted hr_3)) ?_
        refine WpOps.pn 1 rfl trivial ?_
        refine WpOps.nil ?_
        refine WpC.seq ?_
        refine WpC.seqR ?_
        refine WpOps.pn 2 rfl trivial ?_
        refine WpOps.nil ?_
        refine WpC.condB rfl (fun hb => ?_) (fun hb => ?_)
        ·
          replace h := Sh.ite_pos hb h
          refine WpC.seqR ?_
          refine WpOps.pn 3 rfl trivial ?_
          refine WpOps.nil ?_
          obtain rfl := Sh.some_inj h
          refine WpC.ret ?_
          exact VEnds.ret2 rfl rfl rfl ⟨rfl, hH⟩
        ·
          replace h := Sh.ite_neg hb h
          refine WpC.skipD ?_
          refine ⟨_, Heap.le_refl _, ?_⟩
          refine WpC.seqR ?_
          obtain ⟨r_4, hr_4, h⟩ := Sh.bind_some h
          refine WpOps.pn 2 rfl trivial ?_
          refine WpOps.consE (v := (iA r_4)) rfl rfl (Exact.call rfl rfl rfl (w_emendref03_quoted hr_4)) ?_
          refine WpOps.pn 1 rfl trivial ?_
          refine WpOps.nil ?_
          refine WpC.seq ?_
          refine WpC.seqR ?_
          refine WpOps.pn 2 rfl trivial ?_
          refine WpOps.nil ?_
          refine WpC.condB rfl (fun hb => ?_) (fun hb => ?_)
          ·
            replace h := Sh.ite_pos hb h
            refine WpC.seqR ?_
            refine WpOps.pn 3 rfl trivial ?_
            refine WpOps.nil ?_
            obtain rfl := Sh.some_inj h
            refine WpC.ret ?_
            exact VEnds.ret2 rfl rfl rfl ⟨rfl, hH⟩
          ·
            replace h := Sh.ite_neg hb h
            refine WpC.skipD ?_
            refine ⟨_, Heap.le_refl _, ?_⟩
            refine WpC.seqR ?_
            obtain ⟨r_5, hr_5, h⟩ := Sh.bind_some h
            refine WpOps.pn 2 rfl trivial ?_
            refine WpOps.consE (v := (iA r_5)) rfl rfl (Exact.call rfl rfl rfl (w_emendref03_sign hr_5)) ?_
            refine WpOps.pn 1 rfl trivial ?_
            refine WpOps.nil ?_
            refine WpC.seq ?_
            refine WpC.seqR ?_
            refine WpOps.pn 2 rfl trivial ?_
            refine WpOps.nil ?_
            refine WpC.condB rfl (fun hb => ?_) (fun hb => ?_)
            ·
              replace h := Sh.ite_pos hb h
              refine WpC.seqR ?_
              refine WpOps.pn 3 rfl trivial ?_
              refine WpOps.nil ?_
              obtain rfl := Sh.some_inj h
              refine WpC.ret ?_
              exact VEnds.ret2 rfl rfl rfl ⟨rfl, hH⟩
            ·
              replace h := Sh.ite_neg hb h
              refine WpC.skipD ?_
              refine ⟨_, Heap.le_refl _, ?_⟩
              refine WpC.seqR ?_
              refine WpOps.pn 2 rfl trivial ?_
              refine WpOps.nil ?_
              obtain rfl := Sh.some_inj h
              refine WpC.ret ?_
              exact VEnds.ret2 rfl rfl rfl ⟨rfl, hH⟩

theorem w_emendref03_Tokens {H0 : Heap} {file_1 : Int} {text_1 : List UInt8} {r : List GTok} (h : emendref03_Tokens file_1 text_1 = some r) : TCall Tryd.prog 20 [(iA file_1), (sA text_1)] H0 (fun v H' => v = (AV.rows 6 (List.map cGTok r)) ∧ H' = H0) noE := by
  refine id (TCall.body Tryd.func20 rfl rfl ?_)
  have hH : Holds H0 [] H0 := rfl
  refine WpC.seqR ?_
  refine WpOps.pn 1 rfl trivial ?_
  refine WpOps.nil ?_
  refine WpC.seqR ?_
  obtain ⟨r_1, hr_1, h⟩ := Sh.bind_some h
  refine WpOps.pn 1 rfl trivial ?_
  refine WpOps.consE (v := (AV.rows 2 (List.map cGChar r_1))) rfl rfl (Exact.call rfl rfl rfl (w_emendref02_Join hr_1)) ?_
  refine WpOps.pn 1 rfl trivial ?_
  refine WpOps.nil ?_
  refine WpC.seqR ?_
  obtain ⟨r_2, hr_2, h⟩ := Sh.bind_some h
  refine WpOps.pn 1 rfl trivial ?_
  refine WpOps.consE (v := (sA r_2)) rfl rfl (Exact.call rfl rfl rfl (w_emendref02_Text hr_2)) ?_
  refine WpOps.pn 1 rfl trivial ?_
  refine WpOps.nil ?_
  refine WpC.seqR ?_
  refine WpOps.pn 1 rfl trivial ?_
  have hH := hH.nil 38 6
  refine WpOps.nil ?_
  refine WpC.seqR ?_
  refine WpOps.pn 1 rfl trivial ?_
  refine WpOps.nil ?_
  refine WpC.seqR ?_
  refine WpOps.pn 1 rfl trivial ?_
  refine WpOps.nil ?_
  refine WpC.seqB (fun x : (List GTok) × ((Option (Nat × Nat))) => [(7, (.own (List.map cGTok x.1).length x.2))]) (fun x H' => emendref03_Tokens_j1 x.1 = some r ∧ Holds H0 [.own 38 6 x.2 (List.map cGTok x.1)] H') ?_ ?_
  ·
    obtain ⟨o_1, ho_1, hk_1⟩ := Sh.bind_some h
    refine WpC.loopS (emendref03_Tokens_b2 file_1 r_1 r_2) (fun (s : Int × Bool × List GTok) (a : (Option (Nat × Nat))) => [(0, (iA file_1)), (5, (AV.rows 2 (List.map cGChar r_1))), (6, (sA r_2)), (7, (.own (List.map cGTok s.2.2).length a)), (8, (iA s.1)), (9, (bA s.2.1))]) (fun (s : Int × Bool × List GTok) (a : (Option (Nat × Nat))) H' => Holds H0 [.own 38 6 a (List.map cGTok s.2.2)] H') o_1 ((0 : Int), false, ([] : List GTok)) none ho_1 ⟨rfl, rfl, rfl, rfl, rfl, rfl, trivial⟩ hH ?_
    rintro ⟨i_1, passed_1, out_1⟩ p_1 st_1 env H' h hd_1 hH
    refine WpC.seq ?_
    refine WpC.seqR ?_
    refine WpOps.pn 4 rfl trivial ?_
    refine WpOps.nil ?_
    refine WpC.condB rfl (fun hb => ?_) (fun hb => ?_)
    ·
      replace h := Sh.ite_pos hb h
      refine WpC.skipD ?_
      refine ⟨_, Heap.le_refl _, ?_⟩
      refine WpC.block ?_
      refine WpC.seqR ?_
      obtain ⟨r_3, hr_3, h⟩ := Sh.bind_some h
      refine WpOps.pn 2 rfl trivial ?_
      refine WpOps.consE (v := (iA r_3)) rfl rfl (Exact.call rfl rfl rfl (w_emendref03_blank hr_3)) ?_
      refine WpOps.pn 1 rfl trivial ?_
      refine WpOps.nil ?_
      refine WpC.seq ?_
      refine WpC.seqR ?_
      refine WpOps.pn 3 rfl trivial ?_
      refine WpOps.nil ?_
      refine WpC.condB rfl (fun hb => ?_) (fun hb => ?_)
      ·
        replace h := Sh.ite_pos hb h
        refine WpC.seqR ?_
        refine WpOps.pn 2 rfl trivial ?_
        refine WpOps.nil ?_
        refine WpC.seqR ?_
        refine WpOps.pn 1 rfl trivial ?_
        refine WpOps.nil ?_
        refine WpC.exitD ?_
        obtain rfl := Sh.some_inj h
        exact ⟨_, (Heap.le_refl _), (r_3, true, out_1), p_1, rfl, ⟨rfl, rfl, rfl, rfl, rfl, rfl, trivial⟩, hH⟩
      ·
        replace h := Sh.ite_neg hb h
        refine WpC.skipD ?_
        refine ⟨_, Heap.le_refl _, ?_⟩
        refine WpC.seqR ?_
        obtain ⟨r_4, hr_4, h⟩ := Sh.bind_some h
        refine WpOps.pn 2 rfl trivial ?_
        refine WpOps.consE (v := (.tup [(iA r_4.1), (iA r_4.2)])) rfl rfl (Exact.call rfl rfl rfl (w_emendref03_next hr_4)) ?_
        refine WpOps.pn 5 rfl trivial ?_
        refine WpOps.nil ?_
        refine WpC.seqD [.I, .I, .I, .I, .I, .I, .I, .I, .I, .I, .I, .I, .I, .I, .I, .I, .I, .I, .I, .I, .I, .I, .I, .I, .I, .I, .E] [0, 1, 2, 3, 4, 5, 6, 7, 8, 9, 10, 11, 12, 13, 14, 15, 16, 17, 18, 19, 20, 21, 22, 23, 24, 25, 26, 27] (by kernel_rfl) (by kernel_rfl) ?_
        obtain ⟨c_1, h⟩ := Sh.chk_some h
        obtain ⟨c_2, h⟩ := Sh.chk_some h
        refine WpPi.pn 7 rfl c_1 ?_
        refine WpPi.pn 1 rfl (show 0 ≤ i_1 ∧ 0 ≤ (i_1 + r_4.2) ∧ ((i_1).toNat ≤ ((i_1 + r_4.2)).toNat ∧ ((i_1 + r_4.2)).toNat ≤ r_2.length) from ⟨(by omega), (by omega), (by omega)⟩) ?_
        obtain ⟨y_1, hy_1, h⟩ := Sh.bind_some h
        refine WpPi.pn 3 rfl trivial ?_
        refine WpPi.consI (v := (.rop (cGChar y_1))) rfl rfl rfl rfl (fun _ => Exact.ixr cGChar hy_1 rfl rfl rfl rfl (by kernel_rfl) (by decide)) ?_
        refine WpPi.pn 1 rfl trivial ?_
        refine WpPi.consI (v := (iA y_1.at_)) rfl rfl rfl rfl (fun _ => Exact.load_rop rfl rfl rfl) ?_
        obtain ⟨c_3, h⟩ := Sh.chk_some h
        obtain ⟨c_4, h⟩ := Sh.chk_some h
        obtain ⟨y_2, hy_2, h⟩ := Sh.bind_some h
        refine WpPi.pn 5 rfl ⟨c_4, c_3⟩ ?_
        refine WpPi.consI (v := (.rop (cGChar y_2))) rfl rfl rfl rfl (fun _ => Exact.ixr cGChar hy_2 rfl rfl rfl rfl (by kernel_rfl) (by decide)) ?_
        refine WpPi.pn 1 rfl trivial ?_
        refine WpPi.consI (v := (iA y_2.at_)) rfl rfl rfl rfl (fun _ => Exact.load_rop rfl rfl rfl) ?_
        obtain ⟨c_5, h⟩ := Sh.chk_some h
        refine WpPi.pn 3 rfl c_5 ?_
        refine WpPi.consI (v := (AV.rows 6 (List.map cGTok ([(GTok.mk r_4.1 ((r_2.drop (i_1).toNat).take (((i_1 + r_4.2)).toNat - (i_1).toNat)) file_1 y_1.at_ (y_2.at_ + (1 : Int)) passed_1)] : List GTok)))) rfl rfl rfl rfl (fun _ => Exact.litSlice rfl (by kernel_rfl)) ?_
        obtain ⟨c_6, h⟩ := Sh.chk_some h
        refine WpPi.consE rfl rfl rfl rfl (WpO.pushT cGTok out_1 ([(GTok.mk r_4.1 ((r_2.drop (i_1).toNat).take (((i_1 + r_4.2)).toNat - (i_1).toNat)) file_1 y_1.at_ (y_2.at_ + (1 : Int)) passed_1)] : List GTok) (i := 0) rfl ek25 hH rfl rfl rfl (.rows _) (fun y _ => one_cGTok y) (by simp) c_6 (by decide) fun p_2 H' hH => ?_)
        refine WpPi.pn 1 rfl trivial ?_
        refine WpPi.nil ?_
        refine WpC.seqR ?_
        refine WpOps.pn 1 rfl trivial ?_
        refine WpOps.nil ?_
        refine WpC.regionD ?_
        obtain ⟨c_7, h⟩ := Sh.chk_some h
        refine WpOps.pn 4 rfl c_7 ?_
        refine WpOps.nil ?_
        obtain rfl := Sh.some_inj h
        exact ⟨_, (Heap.le_refl _), ((i_1 + r_4.2), false, (out_1 ++ ([(GTok.mk r_4.1 ((r_2.drop (i_1).toNat).take (((i_1 + r_4.2)).toNat - (i_1).toNat)) file_1 y_1.at_ (y_2.at_ + (1 : Int)) passed_1)] : List GTok))), p_2, rfl, ⟨rfl, rfl, rfl, rfl, rfl, rfl, trivial⟩, hH⟩
    ·
      replace h := Sh.ite_neg hb h
      obtain rfl := Sh.some_inj h
      have e := hd_1 _ rfl
      subst e
      refine WpC.exit ?_
      exact ⟨(out_1, p_1), ⟨rfl, trivial⟩, hk_1, hH⟩
  ·
    rintro ⟨out_2, p_3⟩ env H' ⟨h, hH⟩
    try dsimp only at h
    refine WpC.seqR ?_
    refine WpOps.pn 2 rfl trivial ?_
    refine WpOps.nil ?_
    refine WpC.freeze (t := 4) (i := 0) hH rfl rfl (fun H' hH => ?_)
    obtain rfl := Sh.some_inj h
    refine WpC.ret ?_
    exact VEnds.ret1 rfl rfl ⟨rfl, hH⟩

theorem w_splice_Join {H0 : Heap} {text_1 : List UInt8} {r : List GChar} (h : splice_Join text_1 = some r) : TCall Tryd.prog 42 [(sA text_1)] H0 (fun v H' => v = (AV.rows 2 (List.map cGChar r)) ∧ H' = H0) noE := by
  refine id (TCall.body Tryd.func42 rfl rfl ?_)
  have hH : Holds H0 [] H0 := rfl
  refine WpC.seqR ?_
  refine WpOps.pn 1 rfl trivial ?_
  refine WpOps.nil ?_
  refine WpC.seqR ?_
  refine WpOps.consG rfl rfl (WpO.allocT rfl rfl hH fun g_1 H' hH => ?_)
  have hH := hH.nil 67 2
  refine WpOps.nil ?_
  refine WpC.seq ?_
  refine WpC.seqR ?_
  obtain ⟨it_1, hit_1, h⟩ := Sh.bind_some h
  refine WpOps.pn 1 rfl trivial ?_
  refine WpOps.consG rfl rfl (WpO.callN rfl rfl rfl hH (fun HH => w_chars HH) fun g_2 H' hH => ?_)
  refine WpOps.nil ?_
  refine WpC.block ?_
  obtain ⟨o_1, ho_1, hk_1⟩ := Sh.bind_some h
  refine WpC.rangeS splice_Join_b1 it_1 (fun x : GChar => [AV.agg (cGChar x)]) (fun (s : List GChar) (a : (Option (Nat × Nat))) => [.cell g_2 9 (cS text_1), .own 67 2 a (List.map cGChar s), .cell g_1 58 [.own (List.map cGChar s).length a]]) o_1 ([] : List GChar) none ho_1 rfl rfl (by decide) (by obtain ⟨hl, e⟩ := chars_some hit_1; rw [e]; exact w_chars_c1 hl (Heap.one_at _ _)) (fun _ => rfl) (fun s a H hH => Heap.one_le (hH.cell (i := 0) rfl)) hH ?_ ?_
  ·
    rintro x_1 l_1 p_1 st_1 H' h hd_1 hH
    refine WpC.regionD ?_
    refine WpOps.consG rfl rfl (WpO.allocT (z := cGChar (GChar.mk (0 : UInt8) (0 : Int))) rfl rfl hH fun g_3 H' hH => ?_)
    refine WpOps.consG rfl rfl (WpO.putT (cs' := (cGChar x_1)) (v := (AV.agg (cGChar x_1))) rfl rfl hH (i := 0) rfl rfl rfl rfl rfl rfl rfl fun H' hH => ?_)
    refine WpOps.nil ?_
    refine ⟨_, Heap.le_refl _, ?_⟩
    refine WpC.block ?_
    refine WpC.regionD ?_
    refine WpOps.consE rfl rfl (Exact.load rfl rfl (hH.cell (i := 3) rfl) rfl rfl) ?_
    refine WpOps.consE (v := (AV.agg (cGChar x_1))) rfl rfl (Exact.load rfl rfl (hH.cell (i := 0) rfl) rfl rfl) ?_
    refine WpOps.consE (v := (AV.rows 2 (List.map cGChar ([x_1] : List GChar)))) rfl rfl (Exact.litSlice rfl (by kernel_rfl)) ?_
    obtain ⟨c_1, h⟩ := Sh.chk_some h
    refine WpOps.consG rfl rfl (WpO.pushT cGChar l_1 ([x_1] : List GChar) (i := 2) rfl ek58 hH rfl rfl rfl (.rows _) (fun y _ => one_cGChar y) (by simp) c_1 (by decide) fun p_2 H' hH => ?_)
    refine WpOps.consG rfl rfl (WpO.putT rfl rfl hH (i := 3) rfl rfl rfl rfl rfl rfl rfl fun H' hH => ?_)
    refine WpOps.nil ?_
    obtain ⟨_, hle_1, hH⟩ := hH.lose_ (i := 0) rfl
    obtain rfl := Sh.some_inj h
    exact ⟨_, hle_1, (l_1 ++ ([x_1] : List GChar)), p_2, rfl, hH⟩
  ·
    rintro l_2 p_3 H' rfl hH
    have h := hk_1
    refine WpC.seqR ?_
    refine WpOps.consE rfl rfl (Exact.load rfl rfl (hH.cell (i := 2) rfl) rfl rfl) ?_
    refine WpOps.pn 1 rfl trivial ?_
    refine WpOps.nil ?_
    refine WpC.freeze (t := 2) (i := 1) hH rfl rfl (fun H' hH => ?_)
    refine WpC.lose (i := 0) hH rfl (fun H' hH => ?_)
    refine WpC.lose (i := 0) hH rfl (fun H' hH => ?_)
    obtain rfl := Sh.some_inj h
    refine WpC.ret ?_
    exact VEnds.ret1 rfl rfl ⟨rfl, hH⟩

theorem w_splice_Text {H0 : Heap} {l_1 : List GChar} {r : List UInt8} (h : splice_Text l_1 = some r) : TCall Tryd.prog 43 [(AV.rows 2 (List.map cGChar l_1))] H0 (fun v H' => v = (sA r) ∧ H' = H0) noE := by
  refine id (TCall.body Tryd.func43 rfl rfl ?_)
  have hH : Holds H0 [] H0 := rfl
  refine WpC.seqR ?_
  refine WpOps.pn 1 rfl trivial ?_
  refine WpOps.nil ?_
  refine WpC.seqR ?_
  refine WpOps.pn 2 rfl trivial ?_
  refine WpOps.at 7 (len_map _ _) ?_
  obtain ⟨c_1, h⟩ := Sh.chk_some h
  refine WpOps.consG rfl rfl (WpO.makeT cU (z := (0 : UInt8)) (n := (l_1.length : Int)) c_1 rfl rfl rfl hH rfl rfl rfl rfl (by decide) fun g_1 cp_1 H' hH => ?_)
  refine WpOps.pn 1 rfl trivial ?_
  refine WpOps.nil ?_
  refine WpC.seq ?_
  refine WpC.seqR ?_
  refine WpOps.pn 2 rfl trivial ?_
  refine WpOps.at 10 (len_map _ _) ?_
  refine WpOps.pn 1 rfl trivial ?_
  refine WpOps.nil ?_
  refine WpC.blockK (fun x : (List UInt8) × ((Option (Nat × Nat))) => [(3, (.own (List.map cU x.1).length x.2))]) (fun x H' => splice_Text_j1 x.1 = some r ∧ Holds H0 [.own 5 1 x.2 (List.map cU x.1)] H') ?_ ?_
  ·
    obtain ⟨o_1, ho_1, hk_1⟩ := Sh.bind_some h
    refine WpC.loopS (splice_Text_b2 l_1) (fun (s : Int × List UInt8) (a : (Option (Nat × Nat))) => [(3, (.own (List.map cU s.2).length a)), (9, (AV.rows 2 (List.map cGChar l_1))), (10, (iA (l_1.length : Int))), (11, (iA s.1))]) (fun (s : Int × List UInt8) (a : (Option (Nat × Nat))) H' => Holds H0 [.own 5 1 a (List.map cU s.2)] H') o_1 ((0 : Int), (List.replicate ((l_1.length : Int)).toNat (0 : UInt8))) (some (g_1, cp_1)) ho_1 ⟨rfl, rfl, rfl, rfl, trivial⟩ hH ?_
    rintro ⟨t11_1, b_1⟩ p_1 st_1 env H' h hd_1 hH
    refine WpC.seqR ?_
    refine WpOps.pn 1 rfl trivial ?_
    refine WpOps.nil ?_
    refine WpC.seq ?_
    refine WpC.condB rfl (fun hb => ?_) (fun hb => ?_)
    ·
      replace h := Sh.ite_pos hb h
      refine WpC.skipD ?_
      refine ⟨_, Heap.le_refl _, ?_⟩
      refine WpC.seq ?_
      refine WpC.block ?_
      refine WpC.seqR ?_
      obtain ⟨y_1, hy_1, h⟩ := Sh.bind_some h
      refine WpOps.pn 1 rfl trivial ?_
      refine WpOps.consE (v := (.rop (cGChar y_1))) rfl rfl (Exact.ixr cGChar hy_1 rfl rfl rfl rfl (by kernel_rfl) (by decide)) ?_
      refine WpOps.consE (v := (AV.agg (cGChar y_1))) rfl rfl (Exact.load_rop rfl rfl rfl) ?_
      refine WpOps.consG rfl rfl (WpO.allocT (z := cGChar (GChar.mk (0 : UInt8) (0 : Int))) rfl rfl hH fun g_2 H' hH => ?_)
      refine WpOps.pn 1 rfl trivial ?_
      refine WpOps.consG rfl rfl (WpO.putT (cs' := (cGChar y_1)) (v := (AV.agg (cGChar y_1))) rfl rfl hH (i := 0) rfl rfl rfl rfl rfl rfl rfl fun H' hH => ?_)
      refine WpOps.nil ?_
      refine WpC.regionD ?_
      refine WpOps.pn 3 rfl trivial ?_
      refine WpOps.consE (v := (u8A y_1.b)) rfl rfl (Exact.load rfl rfl (hH.cell (i := 0) rfl) rfl rfl) ?_
      obtain ⟨y_2, hy_2, h⟩ := Sh.bind_some h
      have hq_1 := h; have hq_2 := hH
      obtain ⟨g_3, cp_2, rfl⟩ := hq_2.grown (i := 1) rfl (ne_of_ix hy_2)
      have h := hq_1; have hH := hq_2
      refine WpOps.consE rfl rfl (Exact.ixo (size := 1) cU hy_2 rfl rfl rfl rfl (by kernel_rfl) (by decide)) ?_
      refine WpOps.consG rfl rfl (WpO.setT (off := 0) (i := 1) cU (y' := y_1.b) (v := (u8A y_1.b)) hy_2 hH rfl rfl rfl rfl rfl rfl rfl rfl rfl fun H' hH => ?_)
      refine WpOps.at 3 (own_set cU b_1 (t11_1).toNat y_1.b _) ?_
      refine WpOps.at 16 (own_set cU b_1 (t11_1).toNat y_1.b _) ?_
      refine WpOps.nil ?_
      refine ⟨_, Heap.le_refl _, ?_⟩
      refine WpC.regionD ?_
      obtain ⟨c_2, h⟩ := Sh.chk_some h
      refine WpOps.pn 2 rfl c_2 ?_
      refine WpOps.nil ?_
      obtain ⟨_, hle_1, hH⟩ := hH.lose_ (i := 0) rfl
      obtain rfl := Sh.some_inj h
      exact ⟨_, hle_1, ((t11_1 + (1 : Int)), (b_1.set (t11_1).toNat y_1.b)), (some (g_3, cp_2)), rfl, ⟨rfl, rfl, rfl, rfl, trivial⟩, hH⟩
    ·
      replace h := Sh.ite_neg hb h
      obtain rfl := Sh.some_inj h
      have e := hd_1 _ rfl
      subst e
      refine WpC.exit ?_
      exact ⟨(b_1, p_1), ⟨rfl, trivial⟩, hk_1, hH⟩
  ·
    rintro ⟨b_2, p_2⟩ env H' ⟨h, hH⟩
    try dsimp only at h
    refine ⟨_, Heap.le_refl _, ?_⟩
    refine WpC.seqR ?_
    refine WpOps.pn 1 rfl trivial ?_
    refine WpOps.consE (v := (sA b_2)) rfl rfl (Exact.string_of_bytes (bs := b_2) rfl rfl rfl rfl rfl (hH.src (i := 0) rfl)) ?_
    refine WpOps.pn 1 rfl trivial ?_
    refine WpOps.nil ?_
    refine WpC.lose (i := 0) hH rfl (fun H' hH => ?_)
    obtain rfl := Sh.some_inj h
    refine WpC.ret ?_
    exact VEnds.ret1 rfl rfl ⟨rfl, hH⟩

theorem w_pptok_reader_byte {H : Heap} {g_1 : Nat} {r_1 : GPptok_reader} {far_1 : Int} (hg : H g_1 = some (.cells 63 (cGPptok_reader r_1))) {r : UInt8} (h : pptok_reader_byte r_1 far_1 = some r) : TCall Tryd.prog 73 [(.lit (.pointer (some ⟨g_1, 0, none⟩))), (iA far_1)] H (fun v H' => v = (u8A r) ∧ H' = H) noE := by
  obtain ⟨H0, hH⟩ : ∃ H0, Holds H0 [.cell g_1 63 (cGPptok_reader r_1)] H := ⟨_, Holds.of_cell hg⟩
  refine TCall.held hH (id (TCall.body Tryd.func73 rfl rfl ?_))
  refine WpC.seqR ?_
  refine WpOps.pn 1 rfl trivial ?_
  refine WpOps.nil ?_
  refine WpC.seq ?_
  refine WpC.seqD [.I, .I, .I, .S, .I, .I, .I, .I, .I, .S] [0, 1, 2, 3, 4, 5, 6, 7, 8, 9, 10, 11] (by kernel_rfl) (by kernel_rfl) ?_
  refine WpPi.pn 3 rfl trivial ?_
  refine WpPi.consS (v := (iA r_1.at_)) rfl rfl rfl rfl (Exact.load rfl rfl (hH.cell (i := 0) rfl) rfl rfl) ?_
  obtain ⟨c_1, h⟩ := Sh.chk_some h
  refine WpPi.pn 5 rfl c_1 ?_
  refine WpPi.consS (v := (sA r_1.s)) rfl rfl rfl rfl (Exact.load rfl rfl (hH.cell (i := 0) rfl) rfl rfl) ?_
  refine WpPi.pn 2 rfl trivial ?_
  refine WpPi.nil ?_
  refine WpC.condB rfl (fun hb => ?_) (fun hb => ?_)
  ·
    replace h := Sh.ite_pos hb h
    refine WpC.seqR ?_
    refine WpOps.pn 1 rfl trivial ?_
    refine WpOps.nil ?_
    obtain rfl := Sh.some_inj h
    refine WpC.ret ?_
    exact VEnds.ret1 rfl rfl ⟨rfl, hH⟩
  ·
    replace h := Sh.ite_neg hb h
    refine WpC.skipD ?_
    refine ⟨_, Heap.le_refl _, ?_⟩
    refine WpC.seqD [.I, .I, .I, .S, .I, .I, .I, .S] [0, 1, 2, 3, 4, 5, 6, 7, 8, 9, 10, 11] (by kernel_rfl) (by kernel_rfl) ?_
    refine WpPi.pn 3 rfl trivial ?_
    refine WpPi.consS (v := (sA r_1.s)) rfl rfl rfl rfl (Exact.load rfl rfl (hH.cell (i := 0) rfl) rfl rfl) ?_
    refine WpPi.pn 3 rfl trivial ?_
    refine WpPi.consS (v := (iA r_1.at_)) rfl rfl rfl rfl (Exact.load rfl rfl (hH.cell (i := 0) rfl) rfl rfl) ?_
    obtain ⟨c_2, h⟩ := Sh.chk_some h
    obtain ⟨ch_1, hch_1, h⟩ := Sh.bind_some h
    refine WpPi.pn 2 rfl c_2 ?_
    refine WpPi.consI (v := (u8A ch_1)) rfl rfl rfl rfl (fun _ => Exact.ixs hch_1 rfl rfl rfl rfl) ?_
    refine WpPi.pn 1 rfl trivial ?_
    refine WpPi.nil ?_
    obtain rfl := Sh.some_inj h
    refine WpC.ret ?_
    exact VEnds.ret1 rfl rfl ⟨rfl, hH⟩

theorem w_pptok_reader_has {H : Heap} {g_1 : Nat} {r_1 : GPptok_reader} {s_1 : List UInt8} (hg : H g_1 = some (.cells 63 (cGPptok_reader r_1))) {r : Bool} (h : pptok_reader_has r_1 s_1 = some r) : TCall Tryd.prog 74 [(.lit (.pointer (some ⟨g_1, 0, none⟩))), (sA s_1)] H (fun v H' => v = (bA r) ∧ H' = H) noE := by
  obtain ⟨H0, hH⟩ : ∃ H0, Holds H0 [.cell g_1 63 (cGPptok_reader r_1)] H := ⟨_, Holds.of_cell hg⟩
  refine TCall.held hH (id (TCall.body Tryd.func74 rfl rfl ?_))
  refine WpC.seqR ?_
  refine WpOps.pn 1 rfl trivial ?_
  refine WpOps.nil ?_
  refine WpC.seqD [.I, .I, .I, .S, .I, .I, .I, .S] [0, 1, 2, 3, 4, 5, 6, 7, 8, 9, 10, 11] (by kernel_rfl) (by kernel_rfl) ?_
  refine WpPi.pn 3 rfl trivial ?_
  refine WpPi.consS (v := (sA r_1.s)) rfl rfl rfl rfl (Exact.load rfl rfl (hH.cell (i := 0) rfl) rfl rfl) ?_
  refine WpPi.pn 3 rfl trivial ?_
  refine WpPi.consS (v := (iA r_1.at_)) rfl rfl rfl rfl (Exact.load rfl rfl (hH.cell (i := 0) rfl) rfl rfl) ?_
  obtain ⟨c_1, h⟩ := Sh.chk_some h
  refine WpPi.pn 1 rfl (show 0 ≤ r_1.at_ ∧ True ∧ (r_1.at_).toNat ≤ r_1.s.length from ⟨(by omega), trivial, (by omega)⟩) ?_
  refine WpPi.pn 1 rfl trivial ?_
  refine WpPi.consI (v := (bA (Lib.hasPrefix (r_1.s.drop (r_1.at_).toNat) s_1))) rfl rfl rfl rfl (fun _ => Exact.call rfl rfl rfl (l_HasPrefix (r_1.s.drop (r_1.at_).toNat) s_1)) ?_
  refine WpPi.pn 1 rfl trivial ?_
  refine WpPi.nil ?_
  obtain rfl := Sh.some_inj h
  refine WpC.ret ?_
  exact VEnds.ret1 rfl rfl ⟨rfl, hH⟩

theorem w_pptok_reader_blank {H0 H : Heap} {g_1 : Nat} (hG : Glob H0) {r_1 : GPptok_reader} (hH : Holds H0 [.cell g_1 63 (cGPptok_reader r_1)] H) {r : (Bool) × GPptok_reader} (h : pptok_reader_blank r_1 = some r) : TCall Tryd.prog 44 [(.lit (.pointer (some ⟨g_1, 0, none⟩)))] H (fun v H' => v = (bA r.1) ∧ Holds H0 [.cell g_1 63 (cGPptok_reader r.2)] H') noE := by
  refine TCall.body Tryd.func44 rfl rfl ?_
  refine WpC.seqR ?_
  refine WpOps.pn 1 rfl trivial ?_
  refine WpOps.nil ?_
  refine WpC.seqK (fun x : (GPptok_reader) × (Unit) => [(0, (.lit (.pointer (some ⟨g_1, 0, none⟩))))]) (fun x H' => pptok_reader_blank_j1 x.1 = some r ∧ Holds H0 [.cell g_1 63 (cGPptok_reader x.1)] H') ?_ ?_
  ·
    refine WpC.seqR ?_
    obtain ⟨r_2, hr_1, h⟩ := Sh.bind_some h
    refine WpOps.pn 1 rfl trivial ?_
    refine WpOps.consE (v := (u8A r_2)) rfl rfl (Exact.call rfl rfl rfl (w_pptok_reader_byte (hH.cell (i := 0) rfl) hr_1)) ?_
    refine WpOps.nil ?_
    refine WpC.block ?_
    refine WpC.seqK (fun x : (Bool) × (Unit) => [(0, (.lit (.pointer (some ⟨g_1, 0, none⟩)))), (7, (bA x.1))]) (fun x H' => (pptok_reader_blank_j2 r_1) x.1 = some r ∧ Holds H0 [.cell g_1 63 (cGPptok_reader r_1)] H') ?_ ?_
    ·
      refine WpC.seqR ?_
      refine WpOps.pn 2 rfl trivial ?_
      refine WpOps.nil ?_
      refine WpC.condB rfl (fun hb => ?_) (fun hb => ?_)
      ·
        replace h := Sh.ite_pos hb h
        refine WpC.skipD ?_
        exact ⟨_, (Heap.le_refl _), ((decide ((r_2.toNat : Int) = (32 : Int))), ()), ⟨rfl, rfl, trivial⟩, h, hH⟩
      ·
        replace h := Sh.ite_neg hb h
        refine WpC.seqR ?_
        refine WpOps.pn 2 rfl trivial ?_
        refine WpOps.nil ?_
        refine WpC.condB rfl (fun hb => ?_) (fun hb => ?_)
        ·
          replace h := Sh.ite_pos hb h
          refine WpC.skipD ?_
          exact ⟨_, (Heap.le_refl _), ((decide ((r_2.toNat : Int) = (9 : Int))), ()), ⟨rfl, rfl, trivial⟩, h, hH⟩
        ·
          replace h := Sh.ite_neg hb h
          refine WpC.seqR ?_
          refine WpOps.pn 2 rfl trivial ?_
          refine WpOps.nil ?_
          refine WpC.condB rfl (fun hb => ?_) (fun hb => ?_)
          ·
            replace h := Sh.ite_pos hb h
            refine WpC.skipD ?_
            exact ⟨_, (Heap.le_refl _), ((decide ((r_2.toNat : Int) = (11 : Int))), ()), ⟨rfl, rfl, trivial⟩, h, hH⟩
          ·
            replace h := Sh.ite_neg hb h
            refine WpC.seqR ?_
            refine WpOps.pn 2 rfl trivial ?_
            refine WpOps.nil ?_
            refine WpC.condB rfl (fun hb => ?_) (fun hb => ?_)
            ·
              replace h := Sh.ite_pos hb h
              refine WpC.skipD ?_
              exact ⟨_, (Heap.le_refl _), ((decide ((r_2.toNat : Int) = (12 : Int))), ()), ⟨rfl, rfl, trivial⟩, h, hH⟩
            ·
              replace h := Sh.ite_neg hb h
              refine WpC.regionD ?_
              refine WpOps.pn 2 rfl trivial ?_
              refine WpOps.nil ?_
              exact ⟨_, (Heap.le_refl _), ((decide ((r_2.toNat : Int) = (13 : Int))), ()), ⟨rfl, rfl, trivial⟩, h, hH⟩
    ·
      rintro ⟨t7_1, _⟩ env H' ⟨h, hH⟩
      try dsimp only at h
      refine WpC.condB rfl (fun hb => ?_) (fun hb => ?_)
      ·
        replace h := Sh.ite_pos hb h
        refine WpC.seqR ?_
        refine WpOps.pn 3 rfl trivial ?_
        refine WpOps.consE (v := (iA r_1.at_)) rfl rfl (Exact.load rfl rfl (hH.cell (i := 0) rfl) rfl rfl) ?_
        obtain ⟨c_1, h⟩ := Sh.chk_some h
        refine WpOps.pn 3 rfl c_1 ?_
        refine WpOps.consG rfl rfl (WpO.putT (cs' := (cGPptok_reader (GPptok_reader.mk r_1.s (r_1.at_ + (1 : Int))))) (v := (iA (r_1.at_ + (1 : Int)))) rfl rfl hH (i := 0) rfl rfl rfl rfl rfl rfl rfl fun H' hH => ?_)
        refine WpOps.nil ?_
        refine WpC.seqR ?_
        refine WpOps.pn 1 rfl trivial ?_
        refine WpOps.nil ?_
        obtain rfl := Sh.some_inj h
        refine WpC.ret ?_
        exact VEnds.ret1 rfl rfl ⟨rfl, hH⟩
      ·
        replace h := Sh.ite_neg hb h
        refine WpC.skipD ?_
        exact ⟨_, (Heap.le_refl _), (r_1, ()), ⟨rfl, trivial⟩, h, hH⟩
  ·
    rintro ⟨r_3, _⟩ env H' ⟨h, hH⟩
    try dsimp only at h
    refine WpC.seq ?_
    refine WpC.seqR ?_
    obtain ⟨r_4, hr_2, h⟩ := Sh.bind_some h
    refine WpOps.pn 1 rfl trivial ?_
    refine WpOps.consE (v := (bA r_4)) rfl rfl (Exact.call rfl rfl rfl (w_pptok_reader_has (hH.cell (i := 0) rfl) hr_2)) ?_
    refine WpOps.nil ?_
    refine WpC.condB rfl (fun hb => ?_) (fun hb => ?_)
    ·
      replace h := Sh.ite_pos hb h
      refine WpC.seqD [.I, .I, .I, .S, .I, .I, .I, .S] [0, 1, 2, 3, 4, 5, 6, 7, 8, 9, 10] (by kernel_rfl) (by kernel_rfl) ?_
      refine WpPi.pn 3 rfl trivial ?_
      refine WpPi.consS (v := (sA r_3.s)) rfl rfl rfl rfl (Exact.load rfl rfl (hH.cell (i := 0) rfl) rfl rfl) ?_
      refine WpPi.pn 3 rfl trivial ?_
      refine WpPi.consS (v := (iA r_3.at_)) rfl rfl rfl rfl (Exact.load rfl rfl (hH.cell (i := 0) rfl) rfl rfl) ?_
      obtain ⟨c_2, h⟩ := Sh.chk_some h
      refine WpPi.pn 1 rfl (show 0 ≤ r_3.at_ ∧ True ∧ (r_3.at_).toNat ≤ r_3.s.length from ⟨(by omega), trivial, (by omega)⟩) ?_
      refine WpPi.consI (v := (iA (Lib.indexByte (r_3.s.drop (r_3.at_).toNat) (10 : UInt8)))) rfl rfl rfl rfl (fun _ => Exact.call rfl rfl rfl (l_IndexByte (r_3.s.drop (r_3.at_).toNat) (10 : UInt8))) ?_
      refine WpPi.pn 1 rfl trivial ?_
      refine WpPi.nil ?_
      refine WpC.seqK (fun x : (Int) × (Unit) => [(0, (.lit (.pointer (some ⟨g_1, 0, none⟩)))), (3, (iA x.1))]) (fun x H' => (pptok_reader_blank_j3 r_3) x.1 = some r ∧ Holds H0 [.cell g_1 63 (cGPptok_reader r_3)] H') ?_ ?_
      ·
        refine WpC.seqR ?_
        refine WpOps.pn 2 rfl trivial ?_
        refine WpOps.nil ?_
        refine WpC.condB rfl (fun hb => ?_) (fun hb => ?_)
        ·
          replace h := Sh.ite_pos hb h
          refine WpC.drawD [.I, .I, .I, .S, .I, .I, .I, .I, .S] [0, 1, 2, 3, 4, 5, 6, 7, 8, 9, 10] (by kernel_rfl) (by kernel_rfl) ?_
          refine WpPi.pn 3 rfl trivial ?_
          refine WpPi.consS (v := (sA r_3.s)) rfl rfl rfl rfl (Exact.load rfl rfl (hH.cell (i := 0) rfl) rfl rfl) ?_
          refine WpPi.pn 4 rfl trivial ?_
          refine WpPi.consS (v := (iA r_3.at_)) rfl rfl rfl rfl (Exact.load rfl rfl (hH.cell (i := 0) rfl) rfl rfl) ?_
          obtain ⟨c_3, h⟩ := Sh.chk_some h
          refine WpPi.pn 2 rfl c_3 ?_
          refine WpPi.nil ?_
          exact ⟨_, (Heap.le_refl _), (((r_3.s.length : Int) - r_3.at_), ()), ⟨rfl, rfl, trivial⟩, h, hH⟩
        ·
          replace h := Sh.ite_neg hb h
          refine WpC.skipD ?_
          exact ⟨_, (Heap.le_refl _), ((Lib.indexByte (r_3.s.drop (r_3.at_).toNat) (10 : UInt8)), ()), ⟨rfl, rfl, trivial⟩, h, hH⟩
      ·
        rintro ⟨end_1, _⟩ env H' ⟨h, hH⟩
        try dsimp only at h
        refine WpC.seqR ?_
        refine WpOps.pn 3 rfl trivial ?_
        refine WpOps.consE (v := (iA r_3.at_)) rfl rfl (Exact.load rfl rfl (hH.cell (i := 0) rfl) rfl rfl) ?_
        obtain ⟨c_4, h⟩ := Sh.chk_some h
        refine WpOps.pn 4 rfl c_4 ?_
        refine WpOps.consG rfl rfl (WpO.putT (cs' := (cGPptok_reader (GPptok_reader.mk r_3.s (r_3.at_ + end_1)))) (v := (iA (r_3.at_ + end_1))) rfl rfl hH (i := 0) rfl rfl rfl rfl rfl rfl rfl fun H' hH => ?_)
        refine WpOps.nil ?_
        refine WpC.seqR ?_
        refine WpOps.pn 1 rfl trivial ?_
        refine WpOps.nil ?_
        obtain rfl := Sh.some_inj h
        refine WpC.ret ?_
        exact VEnds.ret1 rfl rfl ⟨rfl, hH⟩
    ·
      replace h := Sh.ite_neg hb h
      refine WpC.skipD ?_
      refine ⟨_, Heap.le_refl _, ?_⟩
      refine WpC.seq ?_
      refine WpC.seqR ?_
      obtain ⟨r_5, hr_3, h⟩ := Sh.bind_some h
      refine WpOps.pn 1 rfl trivial ?_
      refine WpOps.consE (v := (bA r_5)) rfl rfl (Exact.call rfl rfl rfl (w_pptok_reader_has (hH.cell (i := 0) rfl) hr_3)) ?_
      refine WpOps.pn 1 rfl trivial ?_
      refine WpOps.nil ?_
      refine WpC.condB rfl (fun hb => ?_) (fun hb => ?_)
      ·
        replace h := Sh.ite_pos hb h
        refine WpC.seqR ?_
        refine WpOps.pn 1 rfl trivial ?_
        refine WpOps.nil ?_
        obtain rfl := Sh.some_inj h
        refine WpC.ret ?_
        exact VEnds.ret1 rfl rfl ⟨rfl, hH⟩
      ·
        replace h := Sh.ite_neg hb h
        refine WpC.skipD ?_
        refine ⟨_, Heap.le_refl _, ?_⟩
        refine WpC.seqD [.I, .I, .I, .S, .I, .I, .I, .S, .I, .I, .S] [0, 1, 2, 3, 4, 5, 6, 7, 8, 9, 10, 11] (by kernel_rfl) (by kernel_rfl) ?_
        refine WpPi.pn 3 rfl trivial ?_
        refine WpPi.consS (v := (sA r_3.s)) rfl rfl rfl rfl (Exact.load rfl rfl (hH.cell (i := 0) rfl) rfl rfl) ?_
        refine WpPi.pn 3 rfl trivial ?_
        refine WpPi.consS (v := (iA r_3.at_)) rfl rfl rfl rfl (Exact.load rfl rfl (hH.cell (i := 0) rfl) rfl rfl) ?_
        obtain ⟨c_5, h⟩ := Sh.chk_some h
        obtain ⟨c_6, h⟩ := Sh.chk_some h
        refine WpPi.pn 1 rfl c_5 ?_
        refine WpPi.pn 1 rfl (show 0 ≤ (r_3.at_ + (2 : Int)) ∧ True ∧ ((r_3.at_ + (2 : Int))).toNat ≤ r_3.s.length from ⟨(by omega), trivial, (by omega)⟩) ?_
        obtain ⟨c_7, h⟩ := Sh.chk_some h
        refine WpPi.consS (v := (iA (Lib.index (r_3.s.drop ((r_3.at_ + (2 : Int))).toNat) ([42, 47] : List UInt8)))) rfl rfl rfl rfl (Exact.call rfl rfl rfl (l_Index (r_3.s.drop ((r_3.at_ + (2 : Int))).toNat) ([42, 47] : List UInt8) (hG.up hH).i c_7)) ?_
        refine WpPi.pn 1 rfl trivial ?_
        refine WpPi.nil ?_
        refine WpC.seq ?_
        refine WpC.seqR ?_
        refine WpOps.pn 2 rfl trivial ?_
        refine WpOps.nil ?_
        refine WpC.condB rfl (fun hb => ?_) (fun hb => ?_)
        ·
          replace h := Sh.ite_pos hb h
          refine WpC.seqR ?_
          refine WpOps.pn 1 rfl trivial ?_
          refine WpOps.nil ?_
          obtain rfl := Sh.some_inj h
          refine WpC.ret ?_
          exact VEnds.ret1 rfl rfl ⟨rfl, hH⟩
        ·
          replace h := Sh.ite_neg hb h
          refine WpC.skipD ?_
          refine ⟨_, Heap.le_refl _, ?_⟩
          refine WpC.seqR ?_
          refine WpOps.pn 3 rfl trivial ?_
          refine WpOps.consE (v := (iA r_3.at_)) rfl rfl (Exact.load rfl rfl (hH.cell (i := 0) rfl) rfl rfl) ?_
          obtain ⟨c_8, h⟩ := Sh.chk_some h
          obtain ⟨c_9, h⟩ := Sh.chk_some h
          refine WpOps.pn 5 rfl ⟨c_9, c_8⟩ ?_
          refine WpOps.consG rfl rfl (WpO.putT (cs' := (cGPptok_reader (GPptok_reader.mk r_3.s (r_3.at_ + ((Lib.index (r_3.s.drop ((r_3.at_ + (2 : Int))).toNat) ([42, 47] : List UInt8)) + (4 : Int)))))) (v := (iA (r_3.at_ + ((Lib.index (r_3.s.drop ((r_3.at_ + (2 : Int))).toNat) ([42, 47] : List UInt8)) + (4 : Int))))) rfl rfl hH (i := 0) rfl rfl rfl rfl rfl rfl rfl fun H' hH => ?_)
          refine WpOps.nil ?_
          refine WpC.seqR ?_
          refine WpOps.pn 1 rfl trivial ?_
          refine WpOps.nil ?_
          obtain rfl := Sh.some_inj h
          refine WpC.ret ?_
          exact VEnds.ret1 rfl rfl ⟨rfl, hH⟩

theorem w_pptok_letter {H0 : Heap} {c_1 : UInt8} {r : Bool} (h : pptok_letter c_1 = some r) : TCall Tryd.prog 97 [(u8A c_1)] H0 (fun v H' => v = (bA r) ∧ H' = H0) noE := by
  refine id (TCall.body Tryd.func97 rfl rfl ?_)
  have hH : Holds H0 [] H0 := rfl
  refine WpC.seqR ?_
  refine WpOps.pn 1 rfl trivial ?_
  refine WpOps.nil ?_
  refine WpC.seqR ?_
  refine WpOps.pn 2 rfl trivial ?_
  obtain ⟨b_1, g_1, h⟩ := Sh.bind_some h
  refine WpOps.cutB 8 12 (bA b_1) rfl ?_ ?_
  ·
    refine WpOps.pn 1 rfl trivial ?_
    refine WpOps.split 5 rfl (fun hb => ?_) (fun hb => ?_)
    ·
      replace g_1 := Sh.ite_pos hb g_1
      refine WpOps.pn 7 rfl trivial ?_
      refine WpOps.nil ?_
      obtain rfl := Sh.some_inj g_1
      exact ⟨rfl, rfl⟩
    ·
      replace g_1 := Sh.ite_neg hb g_1
      refine WpOps.pn 2 rfl trivial ?_
      obtain ⟨b_2, g_2, g_1⟩ := Sh.bind_some g_1
      refine WpOps.cutB 4 11 (bA b_2) rfl ?_ ?_
      ·
        refine WpOps.pn 1 rfl trivial ?_
        refine WpOps.split 8 rfl (fun hb => ?_) (fun hb => ?_)
        ·
          replace g_2 := Sh.ite_pos hb g_2
          refine WpOps.pn 3 rfl trivial ?_
          refine WpOps.nil ?_
          obtain rfl := Sh.some_inj g_2
          exact ⟨rfl, rfl⟩
        ·
          replace g_2 := Sh.ite_neg hb g_2
          refine WpOps.pn 3 rfl trivial ?_
          refine WpOps.nil ?_
          obtain rfl := Sh.some_inj g_2
          exact ⟨rfl, rfl⟩
      intro env
      refine WpOps.pn 1 rfl trivial ?_
      refine WpOps.nil ?_
      obtain rfl := Sh.some_inj g_1
      exact ⟨rfl, rfl⟩
  intro env
  obtain ⟨b_3, g_3, h⟩ := Sh.bind_some h
  refine WpOps.cutB 8 20 (bA b_3) rfl ?_ ?_
  ·
    refine WpOps.pn 1 rfl trivial ?_
    refine WpOps.split 13 rfl (fun hb => ?_) (fun hb => ?_)
    ·
      replace g_3 := Sh.ite_pos hb g_3
      refine WpOps.pn 7 rfl trivial ?_
      refine WpOps.nil ?_
      obtain rfl := Sh.some_inj g_3
      exact ⟨rfl, rfl⟩
    ·
      replace g_3 := Sh.ite_neg hb g_3
      refine WpOps.pn 2 rfl trivial ?_
      obtain ⟨b_4, g_4, g_3⟩ := Sh.bind_some g_3
      refine WpOps.cutB 4 19 (bA b_4) rfl ?_ ?_
      ·
        refine WpOps.pn 1 rfl trivial ?_
        refine WpOps.split 16 rfl (fun hb => ?_) (fun hb => ?_)
        ·
          replace g_4 := Sh.ite_pos hb g_4
          refine WpOps.pn 3 rfl trivial ?_
          refine WpOps.nil ?_
          obtain rfl := Sh.some_inj g_4
          exact ⟨rfl, rfl⟩
        ·
          replace g_4 := Sh.ite_neg hb g_4
          refine WpOps.pn 3 rfl trivial ?_
          refine WpOps.nil ?_
          obtain rfl := Sh.some_inj g_4
          exact ⟨rfl, rfl⟩
      intro env
      refine WpOps.pn 1 rfl trivial ?_
      refine WpOps.nil ?_
      obtain rfl := Sh.some_inj g_3
      exact ⟨rfl, rfl⟩
  intro env
  refine WpOps.pn 1 rfl trivial ?_
  refine WpOps.nil ?_
  obtain rfl := Sh.some_inj h
  refine WpC.ret ?_
  exact VEnds.ret1 rfl rfl ⟨rfl, hH⟩

theorem w_pptok_digit {H0 : Heap} {c_1 : UInt8} {r : Bool} (h : pptok_digit c_1 = some r) : TCall Tryd.prog 98 [(u8A c_1)] H0 (fun v H' => v = (bA r) ∧ H' = H0) noE := by
  refine id (TCall.body Tryd.func98 rfl rfl ?_)
  have hH : Holds H0 [] H0 := rfl
  refine WpC.seqR ?_
  refine WpOps.pn 1 rfl trivial ?_
  refine WpOps.nil ?_
  refine WpC.seqR ?_
  refine WpOps.pn 2 rfl trivial ?_
  obtain ⟨b_1, g_1, h⟩ := Sh.bind_some h
  refine WpOps.cutB 4 8 (bA b_1) rfl ?_ ?_
  ·
    refine WpOps.pn 1 rfl trivial ?_
    refine WpOps.split 5 rfl (fun hb => ?_) (fun hb => ?_)
    ·
      replace g_1 := Sh.ite_pos hb g_1
      refine WpOps.pn 3 rfl trivial ?_
      refine WpOps.nil ?_
      obtain rfl := Sh.some_inj g_1
      exact ⟨rfl, rfl⟩
    ·
      replace g_1 := Sh.ite_neg hb g_1
      refine WpOps.pn 3 rfl trivial ?_
      refine WpOps.nil ?_
      obtain rfl := Sh.some_inj g_1
      exact ⟨rfl, rfl⟩
  intro env
  refine WpOps.pn 1 rfl trivial ?_
  refine WpOps.nil ?_
  obtain rfl := Sh.some_inj h
  refine WpC.ret ?_
  exact VEnds.ret1 rfl rfl ⟨rfl, hH⟩

theorem w_pptok_reader_word {H : Heap} {g_1 : Nat} {r_1 : GPptok_reader} (hg : H g_1 = some (.cells 63 (cGPptok_reader r_1))) {r : Int} (h : pptok_reader_word r_1 = some r) : TCall Tryd.prog 77 [(.lit (.pointer (some ⟨g_1, 0, none⟩)))] H (fun v H' => v = (iA r) ∧ H' = H) noE := by
  obtain ⟨H0, hH⟩ : ∃ H0, Holds H0 [.cell g_1 63 (cGPptok_reader r_1)] H := ⟨_, Holds.of_cell hg⟩
  refine TCall.held hH (id (TCall.body Tryd.func77 rfl rfl ?_))
  refine WpC.seqR ?_
  refine WpOps.pn 1 rfl trivial ?_
  refine WpOps.nil ?_
  refine WpC.seqR ?_
  refine WpOps.pn 1 rfl trivial ?_
  refine WpOps.nil ?_
  refine WpC.seqB (fun x : (Int) × (Unit) => [(3, (iA x.1))]) (fun x H' => pptok_reader_word_j1 x.1 = some r ∧ Holds H0 [.cell g_1 63 (cGPptok_reader r_1)] H') ?_ ?_
  ·
    obtain ⟨o_1, ho_1, hk_1⟩ := Sh.bind_some h
    refine WpC.loopS (pptok_reader_word_b2 r_1) (fun (s : Int) (a : Unit) => [(0, (.lit (.pointer (some ⟨g_1, 0, none⟩)))), (3, (iA s))]) (fun (s : Int) (a : Unit) H' => Holds H0 [.cell g_1 63 (cGPptok_reader r_1)] H') o_1 (0 : Int) () ho_1 ⟨rfl, rfl, trivial⟩ hH ?_
    rintro n_1 _ st_1 env H' h hd_1 hH
    refine WpC.seq ?_
    refine WpC.seqR ?_
    obtain ⟨r_2, hr_1, h⟩ := Sh.bind_some h
    refine WpOps.pn 2 rfl trivial ?_
    refine WpOps.consE (v := (u8A r_2)) rfl rfl (Exact.call rfl rfl rfl (w_pptok_reader_byte (hH.cell (i := 0) rfl) hr_1)) ?_
    obtain ⟨r_3, hr_2, h⟩ := Sh.bind_some h
    refine WpOps.consE (v := (bA r_3)) rfl rfl (Exact.call rfl rfl rfl (w_pptok_letter hr_2)) ?_
    obtain ⟨b_1, g_2, h⟩ := Sh.bind_some h
    refine WpOps.cutB 10 17 (bA b_1) rfl ?_ ?_
    ·
      refine WpOps.pn 1 rfl trivial ?_
      refine WpOps.split 8 rfl (fun hb => ?_) (fun hb => ?_)
      ·
        replace g_2 := Sh.ite_pos hb g_2
        refine WpOps.pn 9 rfl trivial ?_
        refine WpOps.nil ?_
        obtain rfl := Sh.some_inj g_2
        exact ⟨rfl, rfl⟩
      ·
        replace g_2 := Sh.ite_neg hb g_2
        refine WpOps.pn 2 rfl trivial ?_
        obtain ⟨b_2, g_3, g_2⟩ := Sh.bind_some g_2
        refine WpOps.cutB 6 16 (bA b_2) rfl ?_ ?_
        ·
          refine WpOps.pn 1 rfl trivial ?_
          refine WpOps.split 11 rfl (fun hb => ?_) (fun hb => ?_)
          ·
            replace g_3 := Sh.ite_pos hb g_3
            obtain ⟨r_4, hr_3, g_3⟩ := Sh.bind_some g_3
            refine WpOps.pn 2 rfl trivial ?_
            refine WpOps.consE (v := (u8A r_4)) rfl rfl (Exact.call rfl rfl rfl (w_pptok_reader_byte (hH.cell (i := 0) rfl) hr_3)) ?_
            obtain ⟨r_5, hr_4, g_3⟩ := Sh.bind_some g_3
            refine WpOps.consE (v := (bA r_5)) rfl rfl (Exact.call rfl rfl rfl (w_pptok_digit hr_4)) ?_
            refine WpOps.pn 1 rfl trivial ?_
            refine WpOps.nil ?_
            obtain rfl := Sh.some_inj g_3
            exact ⟨rfl, rfl⟩
          ·
            replace g_3 := Sh.ite_neg hb g_3
            refine WpOps.pn 5 rfl trivial ?_
            refine WpOps.nil ?_
            obtain rfl := Sh.some_inj g_3
            exact ⟨rfl, rfl⟩
        intro env
        refine WpOps.pn 1 rfl trivial ?_
        refine WpOps.nil ?_
        obtain rfl := Sh.some_inj g_2
        exact ⟨rfl, rfl⟩
    intro env
    refine WpOps.nil ?_
    refine WpC.condB rfl (fun hb => ?_) (fun hb => ?_)
    ·
      replace h := Sh.ite_pos hb h
      refine WpC.skipD ?_
      refine ⟨_, Heap.le_refl _, ?_⟩
      refine WpC.block ?_
      refine WpC.regionD ?_
      obtain ⟨c_1, h⟩ := Sh.chk_some h
      refine WpOps.pn 3 rfl c_1 ?_
      refine WpOps.nil ?_
      obtain rfl := Sh.some_inj h
      exact ⟨_, (Heap.le_refl _), (n_1 + (1 : Int)), (), rfl, ⟨rfl, rfl, trivial⟩, hH⟩
    ·
      replace h := Sh.ite_neg hb h
      obtain rfl := Sh.some_inj h
      have e := hd_1 _ rfl
      subst e
      refine WpC.exit ?_
      exact ⟨(n_1, ()), ⟨rfl, trivial⟩, hk_1, hH⟩
  ·
    rintro ⟨n_2, _⟩ env H' ⟨h, hH⟩
    try dsimp only at h
    refine WpC.seqR ?_
    refine WpOps.pn 2 rfl trivial ?_
    refine WpOps.nil ?_
    obtain rfl := Sh.some_inj h
    refine WpC.ret ?_
    exact VEnds.ret1 rfl rfl ⟨rfl, hH⟩

theorem w_pptok_reader_number {H : Heap} {g_1 : Nat} {r_1 : GPptok_reader} (hg : H g_1 = some (.cells 63 (cGPptok_reader r_1))) {r : Int} (h : pptok_reader_number r_1 = some r) : TCall Tryd.prog 78 [(.lit (.pointer (some ⟨g_1, 0, none⟩)))] H (fun v H' => v = (iA r) ∧ H' = H) noE := by
  obtain ⟨H0, hH⟩ : ∃ H0, Holds H0 [.cell g_1 63 (cGPptok_reader r_1)] H := ⟨_, Holds.of_cell hg⟩
  refine TCall.held hH (id (TCall.body Tryd.func78 rfl rfl ?_))
  refine WpC.seqR ?_
  refine WpOps.pn 1 rfl trivial ?_
  refine WpOps.nil ?_
  refine WpC.seq ?_
  refine WpC.seqR ?_
  obtain ⟨r_2, hr_1, h⟩ := Sh.bind_some h
  refine WpOps.pn 1 rfl trivial ?_
  refine WpOps.consE (v := (u8A r_2)) rfl rfl (Exact.call rfl rfl rfl (w_pptok_reader_byte (hH.cell (i := 0) rfl) hr_1)) ?_
  obtain ⟨r_3, hr_2, h⟩ := Sh.bind_some h
  refine WpOps.consE (v := (bA r_3)) rfl rfl (Exact.call rfl rfl rfl (w_pptok_digit hr_2)) ?_
  refine WpOps.pn 1 rfl trivial ?_
  obtain ⟨b_1, g_2, h⟩ := Sh.bind_some h
  refine WpOps.cutB 11 20 (bA b_1) rfl ?_ ?_
  ·
    refine WpOps.pn 1 rfl trivial ?_
    refine WpOps.split 10 rfl (fun hb => ?_) (fun hb => ?_)
    ·
      replace g_2 := Sh.ite_pos hb g_2
      obtain ⟨r_4, hr_3, g_2⟩ := Sh.bind_some g_2
      refine WpOps.pn 1 rfl trivial ?_
      refine WpOps.consE (v := (u8A r_4)) rfl rfl (Exact.call rfl rfl rfl (w_pptok_reader_byte (hH.cell (i := 0) rfl) hr_3)) ?_
      refine WpOps.pn 1 rfl trivial ?_
      obtain ⟨b_2, g_3, g_2⟩ := Sh.bind_some g_2
      refine WpOps.cutB 6 19 (bA b_2) rfl ?_ ?_
      ·
        refine WpOps.pn 1 rfl trivial ?_
        refine WpOps.split 14 rfl (fun hb => ?_) (fun hb => ?_)
        ·
          replace g_3 := Sh.ite_pos hb g_3
          refine WpOps.pn 5 rfl trivial ?_
          refine WpOps.nil ?_
          obtain rfl := Sh.some_inj g_3
          exact ⟨rfl, rfl⟩
        ·
          replace g_3 := Sh.ite_neg hb g_3
          obtain ⟨r_5, hr_4, g_3⟩ := Sh.bind_some g_3
          refine WpOps.pn 1 rfl trivial ?_
          refine WpOps.consE (v := (u8A r_5)) rfl rfl (Exact.call rfl rfl rfl (w_pptok_reader_byte (hH.cell (i := 0) rfl) hr_4)) ?_
          obtain ⟨r_6, hr_5, g_3⟩ := Sh.bind_some g_3
          refine WpOps.consE (v := (bA r_6)) rfl rfl (Exact.call rfl rfl rfl (w_pptok_digit hr_5)) ?_
          refine WpOps.pn 2 rfl trivial ?_
          refine WpOps.nil ?_
          obtain rfl := Sh.some_inj g_3
          exact ⟨rfl, rfl⟩
      intro env
      refine WpOps.pn 1 rfl trivial ?_
      refine WpOps.nil ?_
      obtain rfl := Sh.some_inj g_2
      exact ⟨rfl, rfl⟩
    ·
      replace g_2 := Sh.ite_neg hb g_2
      refine WpOps.pn 10 rfl trivial ?_
      refine WpOps.nil ?_
      obtain rfl := Sh.some_inj g_2
      exact ⟨rfl, rfl⟩
  intro env
  refine WpOps.nil ?_
  refine WpC.condB rfl (fun hb => ?_) (fun hb => ?_)
  ·
    replace h := Sh.ite_pos hb h
    refine WpC.seqR ?_
    refine WpOps.pn 1 rfl trivial ?_
    refine WpOps.nil ?_
    obtain rfl := Sh.some_inj h
    refine WpC.ret ?_
    exact VEnds.ret1 rfl rfl ⟨rfl, hH⟩
  ·
    replace h := Sh.ite_neg hb h
    refine WpC.skipD ?_
    refine ⟨_, Heap.le_refl _, ?_⟩
    refine WpC.seqR ?_
    refine WpOps.pn 1 rfl trivial ?_
    refine WpOps.nil ?_
    refine WpC.block ?_
    obtain ⟨o_1, ho_1, hk_1⟩ := Sh.bind_some h
    refine WpC.loopS (pptok_reader_number_b1 r_1) (fun (s : Int) (a : Unit) => [(0, (.lit (.pointer (some ⟨g_1, 0, none⟩)))), (3, (iA s))]) (fun (s : Int) (a : Unit) H' => Holds H0 [.cell g_1 63 (cGPptok_reader r_1)] H') o_1 (1 : Int) () ho_1 ⟨rfl, rfl, trivial⟩ hH ?_
    rintro n_1 _ st_1 env H' h hd_1 hH
    refine WpC.block ?_
    refine WpC.seqR ?_
    obtain ⟨r_7, hr_6, h⟩ := Sh.bind_some h
    refine WpOps.pn 2 rfl trivial ?_
    refine WpOps.consE (v := (u8A r_7)) rfl rfl (Exact.call rfl rfl rfl (w_pptok_reader_byte (hH.cell (i := 0) rfl) hr_6)) ?_
    obtain ⟨c_1, h⟩ := Sh.chk_some h
    obtain ⟨r_8, hr_7, h⟩ := Sh.bind_some h
    refine WpOps.pn 3 rfl c_1 ?_
    refine WpOps.consE (v := (u8A r_8)) rfl rfl (Exact.call rfl rfl rfl (w_pptok_reader_byte (hH.cell (i := 0) rfl) hr_7)) ?_
    refine WpOps.pn 2 rfl trivial ?_
    refine WpOps.nil ?_
    refine WpC.block ?_
    refine WpC.seqR ?_
    refine WpOps.pn 1 rfl trivial ?_
    refine WpOps.consE (v := (iA (Lib.indexByte ([101, 69, 112, 80] : List UInt8) r_7))) rfl rfl (Exact.call rfl rfl rfl (l_IndexByte ([101, 69, 112, 80] : List UInt8) r_7)) ?_
    refine WpOps.pn 1 rfl trivial ?_
    obtain ⟨b_3, g_4, h⟩ := Sh.bind_some h
    refine WpOps.cutB 8 40 (bA b_3) rfl ?_ ?_
    ·
      refine WpOps.pn 1 rfl trivial ?_
      refine WpOps.split 33 rfl (fun hb => ?_) (fun hb => ?_)
      ·
        replace g_4 := Sh.ite_pos hb g_4
        refine WpOps.pn 2 rfl trivial ?_
        obtain ⟨b_4, g_5, g_4⟩ := Sh.bind_some g_4
        refine WpOps.cutB 4 39 (bA b_4) rfl ?_ ?_
        ·
          refine WpOps.pn 1 rfl trivial ?_
          refine WpOps.split 36 rfl (fun hb => ?_) (fun hb => ?_)
          ·
            replace g_5 := Sh.ite_pos hb g_5
            refine WpOps.pn 3 rfl trivial ?_
            refine WpOps.nil ?_
            obtain rfl := Sh.some_inj g_5
            exact ⟨rfl, rfl⟩
          ·
            replace g_5 := Sh.ite_neg hb g_5
            refine WpOps.pn 3 rfl trivial ?_
            refine WpOps.nil ?_
            obtain rfl := Sh.some_inj g_5
            exact ⟨rfl, rfl⟩
        intro env
        refine WpOps.pn 1 rfl trivial ?_
        refine WpOps.nil ?_
        obtain rfl := Sh.some_inj g_4
        exact ⟨rfl, rfl⟩
      ·
        replace g_4 := Sh.ite_neg hb g_4
        refine WpOps.pn 7 rfl trivial ?_
        refine WpOps.nil ?_
        obtain rfl := Sh.some_inj g_4
        exact ⟨rfl, rfl⟩
    intro env
    refine WpOps.pn 1 rfl trivial ?_
    refine WpOps.nil ?_
    refine WpC.condB rfl (fun hb => ?_) (fun hb => ?_)
    ·
      replace h := Sh.ite_pos hb h
      refine WpC.regionD ?_
      obtain ⟨c_2, h⟩ := Sh.chk_some h
      refine WpOps.pn 3 rfl c_2 ?_
      refine WpOps.nil ?_
      obtain rfl := Sh.some_inj h
      exact ⟨_, (Heap.le_refl _), (n_1 + (2 : Int)), (), rfl, ⟨rfl, rfl, trivial⟩, hH⟩
    ·
      replace h := Sh.ite_neg hb h
      refine WpC.seqR ?_
      obtain ⟨r_9, hr_8, h⟩ := Sh.bind_some h
      refine WpOps.pn 1 rfl trivial ?_
      refine WpOps.consE (v := (bA r_9)) rfl rfl (Exact.call rfl rfl rfl (w_pptok_letter hr_8)) ?_
      obtain ⟨b_5, g_6, h⟩ := Sh.bind_some h
      refine WpOps.cutB 4 49 (bA b_5) rfl ?_ ?_
      ·
        refine WpOps.pn 1 rfl trivial ?_
        refine WpOps.split 46 rfl (fun hb => ?_) (fun hb => ?_)
        ·
          replace g_6 := Sh.ite_pos hb g_6
          refine WpOps.pn 3 rfl trivial ?_
          refine WpOps.nil ?_
          obtain rfl := Sh.some_inj g_6
          exact ⟨rfl, rfl⟩
        ·
          replace g_6 := Sh.ite_neg hb g_6
          obtain ⟨r_10, hr_9, g_6⟩ := Sh.bind_some g_6
          refine WpOps.pn 1 rfl trivial ?_
          refine WpOps.consE (v := (bA r_10)) rfl rfl (Exact.call rfl rfl rfl (w_pptok_digit hr_9)) ?_
          refine WpOps.pn 1 rfl trivial ?_
          refine WpOps.nil ?_
          obtain rfl := Sh.some_inj g_6
          exact ⟨rfl, rfl⟩
      intro env
      obtain ⟨b_6, g_7, h⟩ := Sh.bind_some h
      refine WpOps.cutB 4 53 (bA b_6) rfl ?_ ?_
      ·
        refine WpOps.pn 1 rfl trivial ?_
        refine WpOps.split 50 rfl (fun hb => ?_) (fun hb => ?_)
        ·
          replace g_7 := Sh.ite_pos hb g_7
          refine WpOps.pn 3 rfl trivial ?_
          refine WpOps.nil ?_
          obtain rfl := Sh.some_inj g_7
          exact ⟨rfl, rfl⟩
        ·
          replace g_7 := Sh.ite_neg hb g_7
          refine WpOps.pn 3 rfl trivial ?_
          refine WpOps.nil ?_
          obtain rfl := Sh.some_inj g_7
          exact ⟨rfl, rfl⟩
      intro env
      refine WpOps.pn 1 rfl trivial ?_
      refine WpOps.nil ?_
      refine WpC.condB rfl (fun hb => ?_) (fun hb => ?_)
      ·
        replace h := Sh.ite_pos hb h
        refine WpC.regionD ?_
        obtain ⟨c_3, h⟩ := Sh.chk_some h
        refine WpOps.pn 3 rfl c_3 ?_
        refine WpOps.nil ?_
        obtain rfl := Sh.some_inj h
        exact ⟨_, (Heap.le_refl _), (n_1 + (1 : Int)), (), rfl, ⟨rfl, rfl, trivial⟩, hH⟩
      ·
        replace h := Sh.ite_neg hb h
        refine WpC.seqR ?_
        refine WpOps.pn 2 rfl trivial ?_
        refine WpOps.nil ?_
        obtain rfl := Sh.some_inj h
        have e := hd_1 _ rfl
        subst e
        have h := hk_1
        obtain rfl := Sh.some_inj h
        refine WpC.ret ?_
        exact VEnds.ret1 rfl rfl ⟨rfl, hH⟩

theorem w_pptok_reader_quoted {H : Heap} {g_1 : Nat} {r_1 : GPptok_reader} {quote_1 : UInt8} (hg : H g_1 = some (.cells 63 (cGPptok_reader r_1))) {r : Int} (h : pptok_reader_quoted r_1 quote_1 = some r) : TCall Tryd.prog 79 [(.lit (.pointer (some ⟨g_1, 0, none⟩))), (u8A quote_1)] H (fun v H' => v = (iA r) ∧ H' = H) noE := by
  obtain ⟨H0, hH⟩ : ∃ H0, Holds H0 [.cell g_1 63 (cGPptok_reader r_1)] H := ⟨_, Holds.of_cell hg⟩
  refine TCall.held hH (id (TCall.body Tryd.func79 rfl rfl ?_))
  refine WpC.seqR ?_
  refine WpOps.pn 1 rfl trivial ?_
  refine WpOps.nil ?_
  refine WpC.seq ?_
  refine WpC.seqD [.I, .I, .I, .S, .I, .I, .I, .S, .I, .I, .I, .I, .S] [0, 1, 2, 3, 4, 5, 6, 7, 8, 9, 10, 11, 12, 13, 14, 15] (by kernel_rfl) (by kernel_rfl) ?_
  refine WpPi.pn 3 rfl trivial ?_
  refine WpPi.consS (v := (iA r_1.at_)) rfl rfl rfl rfl (Exact.load rfl rfl (hH.cell (i := 0) rfl) rfl rfl) ?_
  refine WpPi.pn 3 rfl trivial ?_
  refine WpPi.consS (v := (sA r_1.s)) rfl rfl rfl rfl (Exact.load rfl rfl (hH.cell (i := 0) rfl) rfl rfl) ?_
  refine WpPi.pn 2 rfl trivial ?_
  obtain ⟨b_1, g_2, h⟩ := Sh.bind_some h
  refine WpPi.cutB 6 21 (bA b_1) rfl ?_ ?_
  ·
    refine WpPi.pn 1 rfl trivial ?_
    refine WpPi.split 16 rfl (fun hb => ?_) (fun hb => ?_)
    ·
      replace g_2 := Sh.ite_pos hb g_2
      refine WpPi.pn 1 rfl trivial ?_
      refine WpPi.skip rfl rfl rfl ?_
      refine WpPi.pn 3 rfl trivial ?_
      refine WpPi.nil ?_
      obtain rfl := Sh.some_inj g_2
      exact ⟨rfl, rfl⟩
    ·
      replace g_2 := Sh.ite_neg hb g_2
      obtain ⟨r_2, hr_1, g_2⟩ := Sh.bind_some g_2
      refine WpPi.pn 1 rfl trivial ?_
      refine WpPi.consS (v := (u8A r_2)) rfl rfl rfl rfl (Exact.call rfl rfl rfl (w_pptok_reader_byte (hH.cell (i := 0) rfl) hr_1)) ?_
      refine WpPi.pn 3 rfl trivial ?_
      refine WpPi.nil ?_
      obtain rfl := Sh.some_inj g_2
      exact ⟨rfl, rfl⟩
  intro env
  refine WpPi.nil ?_
  refine WpC.condB rfl (fun hb => ?_) (fun hb => ?_)
  ·
    replace h := Sh.ite_pos hb h
    refine WpC.seqR ?_
    refine WpOps.pn 1 rfl trivial ?_
    refine WpOps.nil ?_
    obtain rfl := Sh.some_inj h
    refine WpC.ret ?_
    exact VEnds.ret1 rfl rfl ⟨rfl, hH⟩
  ·
    replace h := Sh.ite_neg hb h
    refine WpC.skipD ?_
    refine ⟨_, Heap.le_refl _, ?_⟩
    refine WpC.seq ?_
    refine WpC.seqR ?_
    refine WpOps.pn 1 rfl trivial ?_
    refine WpOps.nil ?_
    refine WpC.blockK (fun x : (Unit) × (Unit) => []) (fun x H' => pptok_reader_quoted_j1 x.1 = some r ∧ Holds H0 [.cell g_1 63 (cGPptok_reader r_1)] H') ?_ ?_
    ·
      obtain ⟨o_1, ho_1, hk_1⟩ := Sh.bind_some h
      refine WpC.loopS (pptok_reader_quoted_b2 r_1 quote_1) (fun (s : Int) (a : Unit) => [(0, (.lit (.pointer (some ⟨g_1, 0, none⟩)))), (1, (u8A quote_1)), (5, (iA s))]) (fun (s : Int) (a : Unit) H' => Holds H0 [.cell g_1 63 (cGPptok_reader r_1)] H') o_1 (1 : Int) () ho_1 ⟨rfl, rfl, rfl, trivial⟩ hH ?_
      rintro n_1 _ st_1 env H' h hd_1 hH
      refine WpC.seq ?_
      refine WpC.seqD [.I, .I, .I, .S, .I, .I, .I, .I, .I, .S] [0, 1, 2, 3, 4, 5, 6, 7, 8, 9, 10, 11] (by kernel_rfl) (by kernel_rfl) ?_
      refine WpPi.pn 3 rfl trivial ?_
      refine WpPi.consS (v := (iA r_1.at_)) rfl rfl rfl rfl (Exact.load rfl rfl (hH.cell (i := 0) rfl) rfl rfl) ?_
      obtain ⟨c_1, h⟩ := Sh.chk_some h
      refine WpPi.pn 5 rfl c_1 ?_
      refine WpPi.consS (v := (sA r_1.s)) rfl rfl rfl rfl (Exact.load rfl rfl (hH.cell (i := 0) rfl) rfl rfl) ?_
      refine WpPi.pn 2 rfl trivial ?_
      refine WpPi.nil ?_
      refine WpC.condB rfl (fun hb => ?_) (fun hb => ?_)
      ·
        replace h := Sh.ite_pos hb h
        refine WpC.skipD ?_
        refine ⟨_, Heap.le_refl _, ?_⟩
        refine WpC.seq ?_
        refine WpC.block ?_
        refine WpC.seqR ?_
        obtain ⟨r_3, hr_2, h⟩ := Sh.bind_some h
        refine WpOps.pn 2 rfl trivial ?_
        refine WpOps.consE (v := (u8A r_3)) rfl rfl (Exact.call rfl rfl rfl (w_pptok_reader_byte (hH.cell (i := 0) rfl) hr_2)) ?_
        refine WpOps.nil ?_
        refine WpC.block ?_
        refine WpC.seqR ?_
        refine WpOps.pn 3 rfl trivial ?_
        refine WpOps.nil ?_
        refine WpC.condB rfl (fun hb => ?_) (fun hb => ?_)
        ·
          replace h := Sh.ite_pos hb h
          refine WpC.seq ?_
          refine WpC.seqR ?_
          refine WpOps.pn 2 rfl trivial ?_
          obtain ⟨b_2, g_3, h⟩ := Sh.bind_some h
          refine WpOps.cutB 4 47 (bA b_2) rfl ?_ ?_
          ·
            refine WpOps.pn 1 rfl trivial ?_
            refine WpOps.split 44 rfl (fun hb => ?_) (fun hb => ?_)
            ·
              replace g_3 := Sh.ite_pos hb g_3
              refine WpOps.pn 3 rfl trivial ?_
              refine WpOps.nil ?_
              obtain rfl := Sh.some_inj g_3
              exact ⟨rfl, rfl⟩
            ·
              replace g_3 := Sh.ite_neg hb g_3
              refine WpOps.pn 3 rfl trivial ?_
              refine WpOps.nil ?_
              obtain rfl := Sh.some_inj g_3
              exact ⟨rfl, rfl⟩
          intro env
          refine WpOps.nil ?_
          refine WpC.condB rfl (fun hb => ?_) (fun hb => ?_)
          ·
            replace h := Sh.ite_pos hb h
            refine WpC.seqR ?_
            refine WpOps.pn 1 rfl trivial ?_
            refine WpOps.nil ?_
            obtain rfl := Sh.some_inj h
            have e := hd_1 _ rfl
            subst e
            have h := hk_1
            obtain rfl := Sh.some_inj h
            refine WpC.ret ?_
            exact VEnds.ret1 rfl rfl ⟨rfl, hH⟩
          ·
            replace h := Sh.ite_neg hb h
            refine WpC.skipD ?_
            refine ⟨_, Heap.le_refl _, ?_⟩
            refine WpC.seqR ?_
            obtain ⟨c_2, h⟩ := Sh.chk_some h
            refine WpOps.pn 3 rfl c_2 ?_
            refine WpOps.nil ?_
            obtain rfl := Sh.some_inj h
            have e := hd_1 _ rfl
            subst e
            have h := hk_1
            obtain rfl := Sh.some_inj h
            refine WpC.ret ?_
            exact VEnds.ret1 rfl rfl ⟨rfl, hH⟩
        ·
          replace h := Sh.ite_neg hb h
          refine WpC.seqR ?_
          refine WpOps.pn 2 rfl trivial ?_
          refine WpOps.nil ?_
          refine WpC.condB rfl (fun hb => ?_) (fun hb => ?_)
          ·
            replace h := Sh.ite_pos hb h
            refine WpC.seqR ?_
            refine WpOps.pn 1 rfl trivial ?_
            refine WpOps.nil ?_
            obtain rfl := Sh.some_inj h
            have e := hd_1 _ rfl
            subst e
            have h := hk_1
            obtain rfl := Sh.some_inj h
            refine WpC.ret ?_
            exact VEnds.ret1 rfl rfl ⟨rfl, hH⟩
          ·
            replace h := Sh.ite_neg hb h
            refine WpC.seqR ?_
            refine WpOps.pn 2 rfl trivial ?_
            refine WpOps.nil ?_
            refine WpC.condB rfl (fun hb => ?_) (fun hb => ?_)
            ·
              replace h := Sh.ite_pos hb h
              refine WpC.seqR ?_
              obtain ⟨c_3, h⟩ := Sh.chk_some h
              refine WpOps.pn 3 rfl c_3 ?_
              refine WpOps.nil ?_
              refine WpC.seqD [.I, .I, .S, .I, .I, .I, .I, .I, .S, .I, .I, .I, .I, .I, .S] [0, 1, 2, 3, 4, 5, 6, 7, 8, 9, 10, 11, 12, 13, 14, 15, 16, 17] (by kernel_rfl) (by kernel_rfl) ?_
              obtain ⟨r_4, hr_3, h⟩ := Sh.bind_some h
              refine WpPi.pn 2 rfl trivial ?_
              refine WpPi.consS (v := (u8A r_4)) rfl rfl rfl rfl (Exact.call rfl rfl rfl (w_pptok_reader_byte (hH.cell (i := 0) rfl) hr_3)) ?_
              refine WpPi.pn 1 rfl trivial ?_
              obtain ⟨b_3, g_4, h⟩ := Sh.bind_some h
              refine WpPi.cutB 14 73 (bA b_3) rfl ?_ ?_
              ·
                refine WpPi.pn 1 rfl trivial ?_
                refine WpPi.split 60 rfl (fun hb => ?_) (fun hb => ?_)
                ·
                  replace g_4 := Sh.ite_pos hb g_4
                  refine WpPi.pn 3 rfl trivial ?_
                  refine WpPi.consS (v := (iA r_1.at_)) rfl rfl rfl rfl (Exact.load rfl rfl (hH.cell (i := 0) rfl) rfl rfl) ?_
                  obtain ⟨c_4, g_4⟩ := Sh.chk_some g_4
                  refine WpPi.pn 5 rfl c_4 ?_
                  refine WpPi.consS (v := (sA r_1.s)) rfl rfl rfl rfl (Exact.load rfl rfl (hH.cell (i := 0) rfl) rfl rfl) ?_
                  refine WpPi.pn 3 rfl trivial ?_
                  refine WpPi.nil ?_
                  obtain rfl := Sh.some_inj g_4
                  exact ⟨rfl, rfl⟩
                ·
                  replace g_4 := Sh.ite_neg hb g_4
                  refine WpPi.pn 3 rfl trivial ?_
                  refine WpPi.skip rfl rfl rfl ?_
                  refine WpPi.pn 5 rfl trivial ?_
                  refine WpPi.skip rfl rfl rfl ?_
                  refine WpPi.pn 3 rfl trivial ?_
                  refine WpPi.nil ?_
                  obtain rfl := Sh.some_inj g_4
                  exact ⟨rfl, rfl⟩
              intro env
              refine WpPi.nil ?_
              refine WpC.condB rfl (fun hb => ?_) (fun hb => ?_)
              ·
                replace h := Sh.ite_pos hb h
                refine WpC.seqR ?_
                refine WpOps.pn 1 rfl trivial ?_
                refine WpOps.nil ?_
                obtain rfl := Sh.some_inj h
                have e := hd_1 _ rfl
                subst e
                have h := hk_1
                obtain rfl := Sh.some_inj h
                refine WpC.ret ?_
                exact VEnds.ret1 rfl rfl ⟨rfl, hH⟩
              ·
                replace h := Sh.ite_neg hb h
                refine WpC.skipD ?_
                refine ⟨_, Heap.le_refl _, ?_⟩
                refine WpC.regionD ?_
                obtain ⟨c_5, h⟩ := Sh.chk_some h
                refine WpOps.pn 3 rfl c_5 ?_
                refine WpOps.nil ?_
                obtain rfl := Sh.some_inj h
                exact ⟨_, (Heap.le_refl _), ((n_1 + (1 : Int)) + (1 : Int)), (), rfl, ⟨rfl, rfl, rfl, trivial⟩, hH⟩
            ·
              replace h := Sh.ite_neg hb h
              refine WpC.skipD ?_
              refine ⟨_, Heap.le_refl _, ?_⟩
              refine WpC.regionD ?_
              obtain ⟨c_6, h⟩ := Sh.chk_some h
              refine WpOps.pn 3 rfl c_6 ?_
              refine WpOps.nil ?_
              obtain rfl := Sh.some_inj h
              exact ⟨_, (Heap.le_refl _), (n_1 + (1 : Int)), (), rfl, ⟨rfl, rfl, rfl, trivial⟩, hH⟩
      ·
        replace h := Sh.ite_neg hb h
        obtain rfl := Sh.some_inj h
        have e := hd_1 _ rfl
        subst e
        refine WpC.exit ?_
        exact ⟨((), ()), trivial, hk_1, hH⟩
    ·
      rintro ⟨_, _⟩ env H' ⟨h, hH⟩
      try dsimp only at h
      refine ⟨_, Heap.le_refl _, ?_⟩
      refine WpC.seqR ?_
      refine WpOps.pn 1 rfl trivial ?_
      refine WpOps.nil ?_
      obtain rfl := Sh.some_inj h
      refine WpC.ret ?_
      exact VEnds.ret1 rfl rfl ⟨rfl, hH⟩

theorem w_pptok_reader_sign {H : Heap} (hG : Glob H) {g_1 : Nat} {r_1 : GPptok_reader} (hg : H g_1 = some (.cells 63 (cGPptok_reader r_1))) {r : Int} (h : pptok_reader_sign r_1 = some r) : TCall Tryd.prog 80 [(.lit (.pointer (some ⟨g_1, 0, none⟩)))] H (fun v H' => v = (iA r) ∧ H' = H) noE := by
  obtain ⟨H0, hH⟩ : ∃ H0, Holds H0 [.cell g_1 63 (cGPptok_reader r_1)] H := ⟨_, Holds.of_cell hg⟩
  have hG := hG.held hH
  refine TCall.held hH (id (TCall.body Tryd.func80 rfl rfl ?_))
  refine WpC.seqR ?_
  refine WpOps.pn 1 rfl trivial ?_
  refine WpOps.nil ?_
  refine WpC.scope ?_
  refine WpC.seqR ?_
  refine WpOps.pn 1 rfl trivial ?_
  refine WpOps.nil ?_
  refine WpC.seq (WpC.label ?_)
  refine WpC.seq ?_
  refine WpC.seqR ?_
  refine WpOps.consE (v := (AV.agg (List.map (fun y => (sA y)) signs))) rfl rfl (Exact.load rfl rfl (hG.up hH).signs rfl (by kernel_rfl)) ?_
  refine WpOps.pn 1 rfl trivial ?_
  refine WpOps.nil ?_
  refine WpC.blockK (fun x : (Int) × (Unit) => [(3, (iA x.1))]) (fun x H' => pptok_reader_sign_j1 x.1 = some r ∧ Holds H0 [.cell g_1 63 (cGPptok_reader r_1)] H') ?_ ?_
  ·
    obtain ⟨o_1, ho_1, hk_1⟩ := Sh.bind_some h
    refine WpC.loopS (pptok_reader_sign_b2 r_1) (fun (s : Int × Int) (a : Unit) => [(0, (.lit (.pointer (some ⟨g_1, 0, none⟩)))), (3, (iA s.1)), (6, (AV.agg (List.map (fun y => (sA y)) signs))), (7, (iA s.2))]) (fun (s : Int × Int) (a : Unit) H' => Holds H0 [.cell g_1 63 (cGPptok_reader r_1)] H') o_1 ((0 : Int), (0 : Int)) () ho_1 ⟨rfl, rfl, rfl, rfl, trivial⟩ hH ?_
    rintro ⟨n_1, t7_1⟩ _ st_1 env H' h hd_1 hH
    refine WpC.seqR ?_
    refine WpOps.pn 1 rfl trivial ?_
    refine WpOps.nil ?_
    refine WpC.seq ?_
    refine WpC.condB rfl (fun hb => ?_) (fun hb => ?_)
    ·
      replace h := Sh.ite_pos hb h
      refine WpC.skipD ?_
      refine ⟨_, Heap.le_refl _, ?_⟩
      refine WpC.seq ?_
      refine WpC.block ?_
      refine WpC.seqR ?_
      obtain ⟨y_1, hy_1, h⟩ := Sh.bind_some h
      refine WpOps.consE (v := (sA y_1)) rfl rfl (Exact.ixa (fun y => (sA y)) hy_1 rfl rfl rfl rfl rfl (by kernel_rfl) rfl) ?_
      refine WpOps.pn 1 rfl trivial ?_
      refine WpOps.nil ?_
      refine WpC.seq ?_
      refine WpC.seqR ?_
      refine WpOps.pn 4 rfl trivial ?_
      obtain ⟨b_1, g_2, h⟩ := Sh.bind_some h
      refine WpOps.cutB 6 19 (bA b_1) rfl ?_ ?_
      ·
        refine WpOps.pn 1 rfl trivial ?_
        refine WpOps.split 14 rfl (fun hb => ?_) (fun hb => ?_)
        ·
          replace g_2 := Sh.ite_pos hb g_2
          refine WpOps.pn 5 rfl trivial ?_
          refine WpOps.nil ?_
          obtain rfl := Sh.some_inj g_2
          exact ⟨rfl, rfl⟩
        ·
          replace g_2 := Sh.ite_neg hb g_2
          obtain ⟨r_2, hr_1, g_2⟩ := Sh.bind_some g_2
          refine WpOps.pn 2 rfl trivial ?_
          refine WpOps.consE (v := (bA r_2)) rfl rfl (Exact.call rfl rfl rfl (w_pptok_reader_has (hH.cell (i := 0) rfl) hr_1)) ?_
          refine WpOps.pn 2 rfl trivial ?_
          refine WpOps.nil ?_
          obtain rfl := Sh.some_inj g_2
          exact ⟨rfl, rfl⟩
      intro env
      refine WpOps.nil ?_
      refine WpC.condB rfl (fun hb => ?_) (fun hb => ?_)
      ·
        replace h := Sh.ite_pos hb h
        refine WpC.exitD ?_
        refine ⟨_, Heap.le_refl _, ?_⟩
        refine WpC.regionD ?_
        obtain ⟨c_1, h⟩ := Sh.chk_some h
        refine WpOps.pn 2 rfl c_1 ?_
        refine WpOps.nil ?_
        obtain rfl := Sh.some_inj h
        exact ⟨_, (Heap.le_refl _), (n_1, (t7_1 + (1 : Int))), (), rfl, ⟨rfl, rfl, rfl, rfl, trivial⟩, hH⟩
      ·
        replace h := Sh.ite_neg hb h
        refine WpC.skipD ?_
        refine ⟨_, Heap.le_refl _, ?_⟩
        refine WpC.regionD ?_
        refine WpOps.pn 3 rfl trivial ?_
        refine WpOps.nil ?_
        refine ⟨_, Heap.le_refl _, ?_⟩
        refine WpC.regionD ?_
        obtain ⟨c_2, h⟩ := Sh.chk_some h
        refine WpOps.pn 2 rfl c_2 ?_
        refine WpOps.nil ?_
        obtain rfl := Sh.some_inj h
        exact ⟨_, (Heap.le_refl _), ((y_1.length : Int), (t7_1 + (1 : Int))), (), rfl, ⟨rfl, rfl, rfl, rfl, trivial⟩, hH⟩
    ·
      replace h := Sh.ite_neg hb h
      obtain rfl := Sh.some_inj h
      have e := hd_1 _ rfl
      subst e
      refine WpC.exit ?_
      exact ⟨(n_1, ()), ⟨rfl, trivial⟩, hk_1, hH⟩
  ·
    rintro ⟨n_2, _⟩ env H' ⟨h, hH⟩
    try dsimp only at h
    refine ⟨_, Heap.le_refl _, ?_⟩
    refine WpC.seqR ?_
    refine WpOps.pn 2 rfl trivial ?_
    refine WpOps.nil ?_
    obtain rfl := Sh.some_inj h
    refine WpC.ret ?_
    exact VEnds.ret1 rfl rfl ⟨rfl, hH⟩

theorem w_pptok_reader_next {H : Heap} (hG : Glob H) {g_1 : Nat} {r_1 : GPptok_reader} (hg : H g_1 = some (.cells 63 (cGPptok_reader r_1))) {r : Int × Int} (h : pptok_reader_next r_1 = some r) : TCall Tryd.prog 45 [(.lit (.pointer (some ⟨g_1, 0, none⟩)))] H (fun v H' => v = (.tup [(iA r.1), (iA r.2)]) ∧ H' = H) noE := by
  obtain ⟨H0, hH⟩ : ∃ H0, Holds H0 [.cell g_1 63 (cGPptok_reader r_1)] H := ⟨_, Holds.of_cell hg⟩
  have hG := hG.held hH
  refine TCall.held hH (id (TCall.body Tryd.func45 rfl rfl ?_))
  refine WpC.seqR ?_
  refine WpOps.pn 2 rfl trivial ?_
  refine WpOps.nil ?_
  refine WpC.seq ?_
  refine WpC.seqR ?_
  obtain ⟨r_2, hr_1, h⟩ := Sh.bind_some h
  refine WpOps.pn 1 rfl trivial ?_
  refine WpOps.consE (v := (bA r_2)) rfl rfl (Exact.call rfl rfl rfl (w_pptok_reader_has (hH.cell (i := 0) rfl) hr_1)) ?_
  refine WpOps.nil ?_
  refine WpC.condB rfl (fun hb => ?_) (fun hb => ?_)
  ·
    replace h := Sh.ite_pos hb h
    refine WpC.seqR ?_
    refine WpOps.pn 2 rfl trivial ?_
    refine WpOps.nil ?_
    obtain rfl := Sh.some_inj h
    refine WpC.ret ?_
    exact VEnds.ret2 rfl rfl rfl ⟨rfl, hH⟩
  ·
    replace h := Sh.ite_neg hb h
    refine WpC.skipD ?_
    refine ⟨_, Heap.le_refl _, ?_⟩
    refine WpC.seq ?_
    refine WpC.seqR ?_
    obtain ⟨r_3, hr_2, h⟩ := Sh.bind_some h
    refine WpOps.pn 1 rfl trivial ?_
    refine WpOps.consE (v := (iA r_3)) rfl rfl (Exact.call rfl rfl rfl (w_pptok_reader_word (hH.cell (i := 0) rfl) hr_2)) ?_
    refine WpOps.pn 1 rfl trivial ?_
    refine WpOps.nil ?_
    refine WpC.seqR ?_
    refine WpOps.pn 2 rfl trivial ?_
    refine WpOps.nil ?_
    refine WpC.condB rfl (fun hb => ?_) (fun hb => ?_)
    ·
      replace h := Sh.ite_pos hb h
      refine WpC.seqR ?_
      refine WpOps.pn 3 rfl trivial ?_
      refine WpOps.nil ?_
      obtain rfl := Sh.some_inj h
      refine WpC.ret ?_
      exact VEnds.ret2 rfl rfl rfl ⟨rfl, hH⟩
    ·
      replace h := Sh.ite_neg hb h
      refine WpC.skipD ?_
      refine ⟨_, Heap.le_refl _, ?_⟩
      refine WpC.seq ?_
      refine WpC.seqR ?_
      obtain ⟨r_4, hr_3, h⟩ := Sh.bind_some h
      refine WpOps.pn 1 rfl trivial ?_
      refine WpOps.consE (v := (iA r_4)) rfl rfl (Exact.call rfl rfl rfl (w_pptok_reader_number (hH.cell (i := 0) rfl) hr_3)) ?_
      refine WpOps.pn 1 rfl trivial ?_
      refine WpOps.nil ?_
      refine WpC.seqR ?_
      refine WpOps.pn 2 rfl trivial ?_
      refine WpOps.nil ?_
      refine WpC.condB rfl (fun hb => ?_) (fun hb => ?_)
      ·
        replace h := Sh.ite_pos hb h
        refine WpC.seqR ?_
        refine WpOps.pn 3 rfl trivial ?_
        refine WpOps.nil ?_
        obtain rfl := Sh.some_inj h
        refine WpC.ret ?_
        exact VEnds.ret2 rfl rfl rfl ⟨rfl, hH⟩
      ·
        replace h := Sh.ite_neg hb h
        refine WpC.skipD ?_
        refine ⟨_, Heap.le_refl _, ?_⟩
        refine WpC.seq ?_
        refine WpC.seqR ?_
        obtain ⟨r_5, hr_4, h⟩ := Sh.bind_some h
        refine WpOps.pn 1 rfl trivial ?_
        refine WpOps.consE (v := (iA r_5)) rfl rfl (Exact.call rfl rfl rfl (w_pptok_reader_quoted (hH.cell (i := 0) rfl) hr_4)) ?_
        refine WpOps.pn 1 rfl trivial ?_
        refine WpOps.nil ?_
        refine WpC.seqR ?_
        refine WpOps.pn 2 rfl trivial ?_
        refine WpOps.nil ?_
        refine WpC.condB rfl (fun hb => ?_) (fun hb => ?_)
        ·
          replace h := Sh.ite_pos hb h
          refine WpC.seqR ?_
          refine WpOps.pn 3 rfl trivial ?_
          refine WpOps.nil ?_
          obtain rfl := Sh.some_inj h
          refine WpC.ret ?_
          exact VEnds.ret2 rfl rfl rfl ⟨rfl, hH⟩
        ·
          replace h := Sh.ite_neg hb h
          refine WpC.skipD ?_
          refine ⟨_, Heap.le_refl _, ?_⟩
          refine WpC.seq ?_
          refine WpC.seqR ?_
          obtain ⟨r_6, hr_5, h⟩ := Sh.bind_some h
          refine WpOps.pn 1 rfl trivial ?_
          refine WpOps.consE (v := (iA r_6)) rfl rfl (Exact.call rfl rfl rfl (w_pptok_reader_quoted (hH.cell (i := 0) rfl) hr_5)) ?_
          refine WpOps.pn 1 rfl trivial ?_
          refine WpOps.nil ?_
          refine WpC.seqR ?_
          refine WpOps.pn 2 rfl trivial ?_
          refine WpOps.nil ?_
          refine WpC.condB rfl (fun hb => ?_) (fun hb => ?_)
          ·
            replace h := Sh.ite_pos hb h
            refine WpC.seqR ?_
            refine WpOps.pn 3 rfl trivial ?_
            refine WpOps.nil ?_
            obtain rfl := Sh.some_inj h
            refine WpC.ret ?_
            exact VEnds.ret2 rfl rfl rfl ⟨rfl, hH⟩
          ·
            replace h := Sh.ite_neg hb h
            refine WpC.skipD ?_
            refine ⟨_, Heap.le_refl _, ?_⟩
            refine WpC.seq ?_
            refine WpC.seqR ?_
            obtain ⟨r_7, hr_6, h⟩ := Sh.bind_some h
            refine WpOps.pn 1 rfl trivial ?_
            refine WpOps.consE (v := (iA r_7)) rfl rfl (Exact.call rfl rfl rfl (w_pptok_reader_sign (hG.up hH) (hH.cell (i := 0) rfl) hr_6)) ?_
            refine WpOps.pn 1 rfl trivial ?_
            refine WpOps.nil ?_
            refine WpC.seqR ?_
            refine WpOps.pn 2 rfl trivial ?_
            refine WpOps.nil ?_
            refine WpC.condB rfl (fun hb => ?_) (fun hb => ?_)
            ·
              replace h := Sh.ite_pos hb h
              refine WpC.seqR ?_
              refine WpOps.pn 3 rfl trivial ?_
              refine WpOps.nil ?_
              obtain rfl := Sh.some_inj h
              refine WpC.ret ?_
              exact VEnds.ret2 rfl rfl rfl ⟨rfl, hH⟩
            ·
              replace h := Sh.ite_neg hb h
              refine WpC.skipD ?_
              refine ⟨_, Heap.le_refl _, ?_⟩
              refine WpC.seqR ?_
              refine WpOps.pn 2 rfl trivial ?_
              refine WpOps.nil ?_
              obtain rfl := Sh.some_inj h
              refine WpC.ret ?_
              exact VEnds.ret2 rfl rfl rfl ⟨rfl, hH⟩

theorem w_pptok_Tokens {H0 : Heap} (hG : Glob H0) {file_1 : Int} {text_1 : List UInt8} {r : List GTok} (h : pptok_Tokens file_1 text_1 = some r) : TCall Tryd.prog 17 [(iA file_1), (sA text_1)] H0 (fun v H' => v = (AV.rows 6 (List.map cGTok r)) ∧ H' = H0) noE := by
  refine id (TCall.body Tryd.func17 rfl rfl ?_)
  have hH : Holds H0 [] H0 := rfl
  refine WpC.seqR ?_
  refine WpOps.pn 1 rfl trivial ?_
  refine WpOps.nil ?_
  refine WpC.seqR ?_
  obtain ⟨r_1, hr_1, h⟩ := Sh.bind_some h
  refine WpOps.pn 1 rfl trivial ?_
  refine WpOps.consE (v := (AV.rows 2 (List.map cGChar r_1))) rfl rfl (Exact.call rfl rfl rfl (w_splice_Join hr_1)) ?_
  refine WpOps.pn 1 rfl trivial ?_
  refine WpOps.nil ?_
  refine WpC.seqR ?_
  obtain ⟨r_2, hr_2, h⟩ := Sh.bind_some h
  refine WpOps.pn 1 rfl trivial ?_
  refine WpOps.consE (v := (sA r_2)) rfl rfl (Exact.call rfl rfl rfl (w_splice_Text hr_2)) ?_
  refine WpOps.pn 1 rfl trivial ?_
  refine WpOps.consG rfl rfl (WpO.boxT (v := (AV.agg (cGPptok_reader (GPptok_reader.mk r_2 (0 : Int))))) rfl rfl hH fun g_1 H' hH => ?_)
  refine WpOps.pn 1 rfl trivial ?_
  refine WpOps.nil ?_
  refine WpC.seqR ?_
  refine WpOps.pn 1 rfl trivial ?_
  have hH := hH.nil 38 6
  refine WpOps.nil ?_
  refine WpC.block ?_
  obtain ⟨o_1, ho_1, hk_1⟩ := Sh.bind_some h
  refine WpC.loopS (pptok_Tokens_b1 file_1 r_1) (fun (s : List GTok × GPptok_reader) (a : (Option (Nat × Nat))) => [(0, (iA file_1)), (5, (AV.rows 2 (List.map cGChar r_1))), (6, (.lit (.pointer (some ⟨g_1, 0, none⟩)))), (7, (.own (List.map cGTok s.1).length a))]) (fun (s : List GTok × GPptok_reader) (a : (Option (Nat × Nat))) H' => Holds H0 [.own 38 6 a (List.map cGTok s.1), .cell g_1 63 (cGPptok_reader s.2)] H') o_1 (([] : List GTok), (GPptok_reader.mk r_2 (0 : Int))) none ho_1 ⟨rfl, rfl, rfl, rfl, trivial⟩ hH ?_
  rintro ⟨out_1, r_3⟩ p_1 st_1 env H' h hd_1 hH
  refine WpC.block ?_
  refine WpC.seqR ?_
  refine WpOps.pn 2 rfl trivial ?_
  refine WpOps.consG rfl rfl (WpO.allocT (z := cGTok (GTok.mk (0 : Int) ([] : List UInt8) (0 : Int) (0 : Int) (0 : Int) false)) rfl rfl hH fun g_2 H' hH => ?_)
  refine WpOps.consG rfl rfl (WpO.putT (cs' := (cGTok (GTok.mk (0 : Int) ([] : List UInt8) file_1 (0 : Int) (0 : Int) false))) (v := (AV.agg (cGTok (GTok.mk (0 : Int) ([] : List UInt8) file_1 (0 : Int) (0 : Int) false)))) rfl rfl hH (i := 0) rfl rfl rfl rfl rfl rfl rfl fun H' hH => ?_)
  refine WpOps.nil ?_
  refine WpC.seqB (fun x : (GTok × GPptok_reader) × (Unit) => [(0, (iA file_1)), (5, (AV.rows 2 (List.map cGChar r_1))), (6, (.lit (.pointer (some ⟨g_1, 0, none⟩)))), (7, (.own (List.map cGTok out_1).length p_1)), (8, (.lit (.pointer (some ⟨g_2, 0, none⟩))))]) (fun x H' => (pptok_Tokens_j2 r_1 out_1) x.1 = some st_1 ∧ Holds H0 [.cell g_2 38 (cGTok x.1.1), .own 38 6 p_1 (List.map cGTok out_1), .cell g_1 63 (cGPptok_reader x.1.2)] H') ?_ ?_
  ·
    obtain ⟨o_2, ho_2, hk_2⟩ := Sh.bind_some h
    refine WpC.loopS pptok_Tokens_b3 (fun (s : GTok × GPptok_reader) (a : Unit) => [(0, (iA file_1)), (5, (AV.rows 2 (List.map cGChar r_1))), (6, (.lit (.pointer (some ⟨g_1, 0, none⟩)))), (7, (.own (List.map cGTok out_1).length p_1)), (8, (.lit (.pointer (some ⟨g_2, 0, none⟩))))]) (fun (s : GTok × GPptok_reader) (a : Unit) H' => Holds H0 [.cell g_2 38 (cGTok s.1), .own 38 6 p_1 (List.map cGTok out_1), .cell g_1 63 (cGPptok_reader s.2)] H') o_2 ((GTok.mk (0 : Int) ([] : List UInt8) file_1 (0 : Int) (0 : Int) false), r_3) () ho_2 ⟨rfl, rfl, rfl, rfl, rfl, trivial⟩ hH ?_
    rintro ⟨t_1, r_4⟩ _ st_2 env H' h hd_2 hH
    refine WpC.seq ?_
    refine WpC.seqD [.I, .I, .I, .S, .I, .I, .I, .S, .I, .I, .I, .I, .E] [0, 1, 2, 3, 4, 5, 6, 7, 8, 9, 10, 11, 12, 13] (by kernel_rfl) (by kernel_rfl) ?_
    refine WpPi.pn 3 rfl trivial ?_
    refine WpPi.consS (v := (iA r_4.at_)) rfl rfl rfl rfl (Exact.load rfl rfl (hH.cell (i := 2) rfl) rfl rfl) ?_
    refine WpPi.pn 3 rfl trivial ?_
    refine WpPi.consS (v := (sA r_4.s)) rfl rfl rfl rfl (Exact.load rfl rfl (hH.cell (i := 2) rfl) rfl rfl) ?_
    refine WpPi.pn 2 rfl trivial ?_
    refine WpPi.pn 1 rfl trivial ?_
    refine WpPi.split 29 rfl (fun hb => ?_) (fun hb => ?_)
    ·
      replace h := Sh.ite_pos hb h
      obtain ⟨r_5, hr_3, h⟩ := Sh.bind_some h
      refine WpPi.pn 1 rfl trivial ?_
      refine WpPi.consE rfl rfl rfl rfl (WpO.callT (v := (bA r_5.1)) rfl rfl rfl hH (i := 2) rfl (fun H1 hl hh => w_pptok_reader_blank (hG.le hl) hh hr_3) fun H' hH => ?_)
      refine WpPi.pn 1 rfl trivial ?_
      refine WpPi.nil ?_
      refine WpC.condB rfl (fun hb => ?_) (fun hb => ?_)
      ·
        replace h := Sh.ite_pos hb h
        refine WpC.skipD ?_
        refine ⟨_, Heap.le_refl _, ?_⟩
        refine WpC.block ?_
        refine WpC.regionD ?_
        refine WpOps.pn 1 rfl trivial ?_
        refine WpOps.consG rfl rfl (WpO.putT (cs' := (cGTok (GTok.mk t_1.kind t_1.text t_1.file_ t_1.from_ t_1.to true))) (v := (bA true)) rfl rfl hH (i := 0) rfl rfl rfl rfl rfl rfl rfl fun H' hH => ?_)
        refine WpOps.nil ?_
        obtain rfl := Sh.some_inj h
        exact ⟨_, (Heap.le_refl _), ((GTok.mk t_1.kind t_1.text t_1.file_ t_1.from_ t_1.to true), r_5.2), (), rfl, ⟨rfl, rfl, rfl, rfl, rfl, trivial⟩, hH⟩
      ·
        replace h := Sh.ite_neg hb h
        obtain rfl := Sh.some_inj h
        have e := hd_2 _ rfl
        subst e
        refine WpC.exit ?_
        exact ⟨((t_1, r_5.2), ()), ⟨rfl, rfl, rfl, rfl, rfl, trivial⟩, hk_2, hH⟩
    ·
      replace h := Sh.ite_neg hb h
      refine WpPi.pn 1 rfl trivial ?_
      refine WpPi.skip rfl rfl rfl ?_
      refine WpPi.pn 1 rfl trivial ?_
      refine WpPi.nil ?_
      refine WpC.condF rfl ?_
      obtain rfl := Sh.some_inj h
      have e := hd_2 _ rfl
      subst e
      refine WpC.exit ?_
      exact ⟨((t_1, r_4), ()), ⟨rfl, rfl, rfl, rfl, rfl, trivial⟩, hk_2, hH⟩
  ·
    rintro ⟨⟨l_1, r_6⟩, _⟩ env H' ⟨h, hH⟩
    try dsimp only at h
    refine WpC.seq ?_
    refine WpC.seqD [.I, .I, .I, .S, .I, .I, .I, .S] [0, 1, 2, 3, 4, 5, 6, 7, 8, 9] (by kernel_rfl) (by kernel_rfl) ?_
    refine WpPi.pn 3 rfl trivial ?_
    refine WpPi.consS (v := (iA r_6.at_)) rfl rfl rfl rfl (Exact.load rfl rfl (hH.cell (i := 2) rfl) rfl rfl) ?_
    refine WpPi.pn 3 rfl trivial ?_
    refine WpPi.consS (v := (sA r_6.s)) rfl rfl rfl rfl (Exact.load rfl rfl (hH.cell (i := 2) rfl) rfl rfl) ?_
    refine WpPi.pn 2 rfl trivial ?_
    refine WpPi.nil ?_
    refine WpC.condB rfl (fun hb => ?_) (fun hb => ?_)
    ·
      replace h := Sh.ite_pos hb h
      refine WpC.seqR ?_
      refine WpOps.pn 2 rfl trivial ?_
      refine WpOps.nil ?_
      refine WpC.freeze (t := 4) (i := 1) hH rfl rfl (fun H' hH => ?_)
      refine WpC.lose (i := 0) hH rfl (fun H' hH => ?_)
      refine WpC.lose (i := 0) hH rfl (fun H' hH => ?_)
      obtain rfl := Sh.some_inj h
      have e := hd_1 _ rfl
      subst e
      have h := hk_1
      obtain rfl := Sh.some_inj h
      refine WpC.ret ?_
      exact VEnds.ret1 rfl rfl ⟨rfl, hH⟩
    ·
      replace h := Sh.ite_neg hb h
      refine WpC.skipD ?_
      refine ⟨_, Heap.le_refl _, ?_⟩
      refine WpC.seqR ?_
      obtain ⟨r_7, hr_4, h⟩ := Sh.bind_some h
      refine WpOps.pn 1 rfl trivial ?_
      refine WpOps.consE (v := (.tup [(iA r_7.1), (iA r_7.2)])) rfl rfl (Exact.call rfl rfl rfl (w_pptok_reader_next (hG.up hH) (hH.cell (i := 2) rfl) hr_4)) ?_
      refine WpOps.pn 5 rfl trivial ?_
      refine WpOps.nil ?_
      refine WpC.seqDI (fun H => H g_1 = some (.cells 63 (cGPptok_reader r_6)) ∧ Glob H ∧ True) [.I, .I, .I, .I, .I, .I, .I, .I, .I, .I, .I, .I, .I, .I, .I, .I, .I, .E, .I, .E] [0, 1, 2, 3, 4, 5, 6, 7, 8, 9, 10, 11, 12, 13, 14, 15, 16, 17, 18, 19] (by kernel_rfl) (by kernel_rfl) ⟨hH.cell (i := 2) rfl, hG.up hH, trivial⟩ ?_
      refine WpPi.pn 4 rfl trivial ?_
      refine WpPi.consV (v := (sA r_6.s)) rfl rfl rfl rfl (fun _ hi => Exact.load rfl rfl hi.1 rfl rfl) ?_
      refine WpPi.pn 3 rfl trivial ?_
      refine WpPi.consV (v := (iA r_6.at_)) rfl rfl rfl rfl (fun _ hi => Exact.load rfl rfl hi.1 rfl rfl) ?_
      refine WpPi.pn 3 rfl trivial ?_
      refine WpPi.consV (v := (iA r_6.at_)) rfl rfl rfl rfl (fun _ hi => Exact.load rfl rfl hi.1 rfl rfl) ?_
      obtain ⟨c_1, h⟩ := Sh.chk_some h
      obtain ⟨c_2, h⟩ := Sh.chk_some h
      refine WpPi.pn 2 rfl c_1 ?_
      refine WpPi.pn 1 rfl (show 0 ≤ r_6.at_ ∧ 0 ≤ (r_6.at_ + r_7.2) ∧ ((r_6.at_).toNat ≤ ((r_6.at_ + r_7.2)).toNat ∧ ((r_6.at_ + r_7.2)).toNat ≤ r_6.s.length) from ⟨(by omega), (by omega), (by omega)⟩) ?_
      refine WpPi.pn 1 rfl trivial ?_
      refine WpPi.consF rfl rfl rfl rfl (WpO.putT (cs' := (cGTok (GTok.mk r_7.1 l_1.text l_1.file_ l_1.from_ l_1.to l_1.blank))) (v := (iA r_7.1)) rfl rfl hH (i := 0) rfl rfl rfl rfl rfl rfl rfl fun H' hH => ⟨⟨hH.cell (i := 2) rfl, hG.up hH, trivial⟩, ?_⟩)
      refine WpPi.pn 1 rfl trivial ?_
      refine WpPi.consF rfl rfl rfl rfl (WpO.putT (cs' := (cGTok (GTok.mk r_7.1 ((r_6.s.drop (r_6.at_).toNat).take (((r_6.at_ + r_7.2)).toNat - (r_6.at_).toNat)) l_1.file_ l_1.from_ l_1.to l_1.blank))) (v := (sA ((r_6.s.drop (r_6.at_).toNat).take (((r_6.at_ + r_7.2)).toNat - (r_6.at_).toNat)))) rfl rfl hH (i := 0) rfl rfl rfl rfl rfl rfl rfl fun H' hH => ⟨⟨hH.cell (i := 2) rfl, hG.up hH, trivial⟩, ?_⟩)
      refine WpPi.nil ?_
      refine WpC.seqDI (fun H => H g_1 = some (.cells 63 (cGPptok_reader r_6)) ∧ Glob H ∧ True) [.I, .I, .I, .I, .I, .I, .I, .I, .I, .I, .I, .I, .I, .I, .I, .I, .I, .I, .I, .I, .I, .E, .I, .E] [0, 1, 2, 3, 4, 5, 6, 7, 8, 9, 10, 11, 12, 13, 14, 15, 16, 17, 18, 19, 20, 21, 22, 23] (by kernel_rfl) (by kernel_rfl) ⟨hH.cell (i := 2) rfl, hG.up hH, trivial⟩ ?_
      refine WpPi.pn 4 rfl trivial ?_
      refine WpPi.consV (v := (iA r_6.at_)) rfl rfl rfl rfl (fun _ hi => Exact.load rfl rfl hi.1 rfl rfl) ?_
      obtain ⟨y_1, hy_1, h⟩ := Sh.bind_some h
      refine WpPi.consI (v := (.rop (cGChar y_1))) rfl rfl rfl rfl (fun _ => Exact.ixr cGChar hy_1 rfl rfl rfl rfl (by kernel_rfl) (by decide)) ?_
      refine WpPi.pn 1 rfl trivial ?_
      refine WpPi.consI (v := (iA y_1.at_)) rfl rfl rfl rfl (fun _ => Exact.load_rop rfl rfl rfl) ?_
      refine WpPi.pn 4 rfl trivial ?_
      refine WpPi.consV (v := (iA r_6.at_)) rfl rfl rfl rfl (fun _ hi => Exact.load rfl rfl hi.1 rfl rfl) ?_
      obtain ⟨c_3, h⟩ := Sh.chk_some h
      obtain ⟨c_4, h⟩ := Sh.chk_some h
      obtain ⟨y_2, hy_2, h⟩ := Sh.bind_some h
      refine WpPi.pn 3 rfl ⟨c_4, c_3⟩ ?_
      refine WpPi.consI (v := (.rop (cGChar y_2))) rfl rfl rfl rfl (fun _ => Exact.ixr cGChar hy_2 rfl rfl rfl rfl (by kernel_rfl) (by decide)) ?_
      refine WpPi.pn 1 rfl trivial ?_
      refine WpPi.consI (v := (iA y_2.at_)) rfl rfl rfl rfl (fun _ => Exact.load_rop rfl rfl rfl) ?_
      obtain ⟨c_5, h⟩ := Sh.chk_some h
      refine WpPi.pn 2 rfl c_5 ?_
      refine WpPi.consF rfl rfl rfl rfl (WpO.putT (cs' := (cGTok (GTok.mk r_7.1 ((r_6.s.drop (r_6.at_).toNat).take (((r_6.at_ + r_7.2)).toNat - (r_6.at_).toNat)) l_1.file_ y_1.at_ l_1.to l_1.blank))) (v := (iA y_1.at_)) rfl rfl hH (i := 0) rfl rfl rfl rfl rfl rfl rfl fun H' hH => ⟨⟨hH.cell (i := 2) rfl, hG.up hH, trivial⟩, ?_⟩)
      refine WpPi.pn 1 rfl trivial ?_
      refine WpPi.consF rfl rfl rfl rfl (WpO.putT (cs' := (cGTok (GTok.mk r_7.1 ((r_6.s.drop (r_6.at_).toNat).take (((r_6.at_ + r_7.2)).toNat - (r_6.at_).toNat)) l_1.file_ y_1.at_ (y_2.at_ + (1 : Int)) l_1.blank))) (v := (iA (y_2.at_ + (1 : Int)))) rfl rfl hH (i := 0) rfl rfl rfl rfl rfl rfl rfl fun H' hH => ⟨⟨hH.cell (i := 2) rfl, hG.up hH, trivial⟩, ?_⟩)
      refine WpPi.nil ?_
      refine WpC.seqR ?_
      refine WpOps.pn 3 rfl trivial ?_
      refine WpOps.consE (v := (iA r_6.at_)) rfl rfl (Exact.load rfl rfl (hH.cell (i := 2) rfl) rfl rfl) ?_
      obtain ⟨c_6, h⟩ := Sh.chk_some h
      refine WpOps.pn 4 rfl c_6 ?_
      refine WpOps.consG rfl rfl (WpO.putT (cs' := (cGPptok_reader (GPptok_reader.mk r_6.s (r_6.at_ + r_7.2)))) (v := (iA (r_6.at_ + r_7.2))) rfl rfl hH (i := 2) rfl rfl rfl rfl rfl rfl rfl fun H' hH => ?_)
      refine WpOps.nil ?_
      refine WpC.regionD ?_
      refine WpOps.pn 1 rfl trivial ?_
      refine WpOps.consE (v := (AV.agg (cGTok (GTok.mk r_7.1 ((r_6.s.drop (r_6.at_).toNat).take (((r_6.at_ + r_7.2)).toNat - (r_6.at_).toNat)) l_1.file_ y_1.at_ (y_2.at_ + (1 : Int)) l_1.blank)))) rfl rfl (Exact.load rfl rfl (hH.cell (i := 0) rfl) rfl rfl) ?_
      refine WpOps.consE (v := (AV.rows 6 (List.map cGTok ([(GTok.mk r_7.1 ((r_6.s.drop (r_6.at_).toNat).take (((r_6.at_ + r_7.2)).toNat - (r_6.at_).toNat)) l_1.file_ y_1.at_ (y_2.at_ + (1 : Int)) l_1.blank)] : List GTok)))) rfl rfl (Exact.litSlice rfl (by kernel_rfl)) ?_
      obtain ⟨c_7, h⟩ := Sh.chk_some h
      refine WpOps.consG rfl rfl (WpO.pushT cGTok out_1 ([(GTok.mk r_7.1 ((r_6.s.drop (r_6.at_).toNat).take (((r_6.at_ + r_7.2)).toNat - (r_6.at_).toNat)) l_1.file_ y_1.at_ (y_2.at_ + (1 : Int)) l_1.blank)] : List GTok) (i := 1) rfl ek25 hH rfl rfl rfl (.rows _) (fun y _ => one_cGTok y) (by simp) c_7 (by decide) fun p_2 H' hH => ?_)
      refine WpOps.pn 1 rfl trivial ?_
      refine WpOps.nil ?_
      obtain ⟨_, hle_1, hH⟩ := hH.lose_ (i := 0) rfl
      obtain rfl := Sh.some_inj h
      exact ⟨_, hle_1, ((out_1 ++ ([(GTok.mk r_7.1 ((r_6.s.drop (r_6.at_).toNat).take (((r_6.at_ + r_7.2)).toNat - (r_6.at_).toNat)) l_1.file_ y_1.at_ (y_2.at_ + (1 : Int)) l_1.blank)] : List GTok)), (GPptok_reader.mk r_6.s (r_6.at_ + r_7.2))), p_2, rfl, ⟨rfl, rfl, rfl, rfl, trivial⟩, hH⟩

abbrev pE (e : Int) : List PanicEntry := [{ v := .iface 78 (.agg #[.int .i64 e]), recovered := false }]
theorem w_macro_need {H0 : Heap} {so : Bool} {e : Int} {r : Sum Int (Unit)} (h : macro_need so e = some r) : TCall Tryd.prog 57 [bA so, iA e] H0 (fun v H' => ∃ x, r = Sum.inr x ∧ v = (.tup []) ∧ H' = H0) (fun ch H' => ∃ e, r = Sum.inl e ∧ ch = pE e ∧ Heap.le H0 H') := by
  refine id (TCall.body Tryd.func57 rfl rfl ?_)
  refine WpC.seqR ?_
  refine WpOps.pn 2 rfl trivial ?_
  refine WpOps.nil ?_
  refine WpC.condB rfl (fun hb => ?_) (fun hb => ?_)
  · obtain rfl := Sh.some_inj (Sh.ite_pos hb h)
    refine WpC.region ?_
    refine WpOps.pn 3 rfl trivial ?_
    refine WpOps.consG rfl rfl (WpO.panic (t := 78) (v := .int .i64 e) rfl rfl ?_)
    exact VEnds.pan ⟨_, rfl, rfl, Heap.le_refl _⟩
  · obtain rfl := Sh.some_inj (Sh.ite_neg hb h)
    refine WpC.skip ?_
    exact VEnds.end0 rfl ⟨_, rfl, rfl, rfl⟩

theorem w_macro_reader_word {H0 H : Heap} {r_1 : GMacro_reader} {e_1 : Int} {g_1 : Nat}  (hH : Holds H0 [.cell g_1 81 (cGMacro_reader r_1)] H) {r : Sum Int ((List UInt8) × GMacro_reader)} (h : macro_reader_word r_1 e_1 = some r) : TCall Tryd.prog 56 [(.lit (.pointer (some ⟨g_1, 0, none⟩))), (iA e_1)] H (fun v H' => ∃ x, r = Sum.inr x ∧ v = (sA x.1) ∧ ∃ b : Unit, Holds H0 [.cell g_1 81 (cGMacro_reader x.2)] H') (fun ch H' => ∃ e, r = Sum.inl e ∧ ch = pE e ∧ ∃ H2, Heap.le H2 H' ∧ ∃ y : {l : List AV // l.length = 1}, Holds H0 [.cell g_1 81 y.1] H2) := by
  refine TCall.body Tryd.func56 rfl rfl ?_
  refine WpC.seqR ?_
  refine WpOps.pn 1 rfl trivial ?_
  refine WpOps.nil ?_
  refine WpC.seqR ?_
  refine WpOps.pn 3 rfl trivial ?_
  refine WpOps.consE (v := (AV.rows 6 (List.map cGTok r_1.l))) rfl rfl (Exact.load rfl rfl (hH.cell (i := 0) rfl) rfl rfl) ?_
  refine WpOps.pn 1 rfl trivial ?_
  refine WpOps.at 10 (len_map _ _) ?_
  refine WpOps.pn 1 rfl trivial ?_
  obtain ⟨b_1, g_2, h⟩ := Sh.bind_some h
  refine WpOps.cutB 10 21 (bA b_1) rfl ?_ ?_
  ·
    refine WpOps.pn 1 rfl trivial ?_
    refine WpOps.split 12 rfl (fun hb => ?_) (fun hb => ?_)
    ·
      replace g_2 := Sh.ite_pos hb g_2
      refine WpOps.pn 3 rfl trivial ?_
      refine WpOps.consE (v := (AV.rows 6 (List.map cGTok r_1.l))) rfl rfl (Exact.load rfl rfl (hH.cell (i := 0) rfl) rfl rfl) ?_
      obtain ⟨y_1, hy_1, g_2⟩ := Sh.bind_some g_2
      refine WpOps.consE (v := (.rop (cGTok y_1))) rfl rfl (Exact.ixr cGTok hy_1 rfl rfl rfl rfl (by kernel_rfl) (by decide)) ?_
      refine WpOps.pn 1 rfl trivial ?_
      refine WpOps.consE (v := (iA y_1.kind)) rfl rfl (Exact.load_rop rfl rfl rfl) ?_
      refine WpOps.pn 2 rfl trivial ?_
      refine WpOps.nil ?_
      obtain rfl := Sh.some_inj g_2
      exact ⟨rfl, rfl⟩
    ·
      replace g_2 := Sh.ite_neg hb g_2
      refine WpOps.pn 9 rfl trivial ?_
      refine WpOps.nil ?_
      obtain rfl := Sh.some_inj g_2
      exact ⟨rfl, rfl⟩
  intro env
  obtain ⟨r_2, hr_1, h⟩ := Sh.bind_some h
  refine WpOps.pn 1 rfl trivial ?_
  refine WpOps.consG rfl rfl (WpO.callPv (V := fun (y : Unit) => (.tup [])) rfl rfl rfl (w_macro_need hr_1) (fun y_2 hr => ?_) (fun er H' hr hl => ?_))
  rotate_left
  ·
    subst hr
    replace h := Sh.orP_inl h
    obtain rfl := Sh.some_inj h
    exact VEnds.pan ⟨er, rfl, rfl, _, hl, ⟨_, by first | rfl | exact yy.2 | exact yy.1.2 | exact yy.2.2⟩, hH⟩
  subst hr
  replace h := Sh.orP_inr h
  refine WpOps.nil ?_
  refine WpC.seqR ?_
  refine WpOps.pn 3 rfl trivial ?_
  refine WpOps.consE (v := (AV.rows 6 (List.map cGTok r_1.l))) rfl rfl (Exact.load rfl rfl (hH.cell (i := 0) rfl) rfl rfl) ?_
  obtain ⟨y_3, hy_2, h⟩ := Sh.bind_some h
  refine WpOps.consE (v := (.rop (cGTok y_3))) rfl rfl (Exact.ixr cGTok hy_2 rfl rfl rfl rfl (by kernel_rfl) (by decide)) ?_
  refine WpOps.pn 1 rfl trivial ?_
  refine WpOps.consE (v := (sA y_3.text)) rfl rfl (Exact.load_rop rfl rfl rfl) ?_
  refine WpOps.pn 1 rfl trivial ?_
  refine WpOps.nil ?_
  refine WpC.seqR ?_
  refine WpOps.pn 4 rfl trivial ?_
  refine WpOps.consE (v := (AV.rows 6 (List.map cGTok r_1.l))) rfl rfl (Exact.load rfl rfl (hH.cell (i := 0) rfl) rfl rfl) ?_
  obtain ⟨c_1, h⟩ := Sh.chk_some h
  refine WpOps.pn 1 rfl (show 0 ≤ (1 : Int) ∧ True ∧ True ∧ ((1 : Int)).toNat ≤ (List.map cGTok r_1.l).length ∧ True from ⟨(by omega), trivial, trivial, (by simp only [List.length_map]; omega), trivial⟩) ?_
  refine WpOps.at 36 (rows_drop 6 cGTok r_1.l _) ?_
  refine WpOps.pn 2 rfl trivial ?_
  refine WpOps.consG rfl rfl (WpO.putT (cs' := (cGMacro_reader (GMacro_reader.mk (r_1.l.drop ((1 : Int)).toNat)))) (v := (AV.rows 6 (List.map cGTok (r_1.l.drop ((1 : Int)).toNat)))) rfl rfl hH (i := 0) rfl rfl rfl rfl rfl rfl rfl fun H' hH => ?_)
  refine WpOps.nil ?_
  refine WpC.seqR ?_
  refine WpOps.pn 2 rfl trivial ?_
  refine WpOps.nil ?_
  obtain rfl := Sh.some_inj h
  refine WpC.ret ?_
  exact VEnds.ret1 rfl rfl ⟨_, rfl, rfl, (), hH⟩

theorem w_macro_reader_sign {H : Heap} {g_1 : Nat} {r_1 : GMacro_reader} {s_1 : List UInt8} (hg : H g_1 = some (.cells 81 (cGMacro_reader r_1))) {r : Bool} (h : macro_reader_sign r_1 s_1 = some r) : TCall Tryd.prog 58 [(.lit (.pointer (some ⟨g_1, 0, none⟩))), (sA s_1)] H (fun v H' => v = (bA r) ∧ H' = H) noE := by
  obtain ⟨H0, hH⟩ : ∃ H0, Holds H0 [.cell g_1 81 (cGMacro_reader r_1)] H := ⟨_, Holds.of_cell hg⟩
  refine TCall.held hH (id (TCall.body Tryd.func58 rfl rfl ?_))
  refine WpC.seqR ?_
  refine WpOps.pn 1 rfl trivial ?_
  refine WpOps.nil ?_
  refine WpC.seqR ?_
  refine WpOps.pn 3 rfl trivial ?_
  refine WpOps.consE (v := (AV.rows 6 (List.map cGTok r_1.l))) rfl rfl (Exact.load rfl rfl (hH.cell (i := 0) rfl) rfl rfl) ?_
  refine WpOps.pn 1 rfl trivial ?_
  refine WpOps.at 9 (len_map _ _) ?_
  refine WpOps.pn 1 rfl trivial ?_
  obtain ⟨b_1, g_2, h⟩ := Sh.bind_some h
  refine WpOps.cutB 10 20 (bA b_1) rfl ?_ ?_
  ·
    refine WpOps.pn 1 rfl trivial ?_
    refine WpOps.split 11 rfl (fun hb => ?_) (fun hb => ?_)
    ·
      replace g_2 := Sh.ite_pos hb g_2
      refine WpOps.pn 3 rfl trivial ?_
      refine WpOps.consE (v := (AV.rows 6 (List.map cGTok r_1.l))) rfl rfl (Exact.load rfl rfl (hH.cell (i := 0) rfl) rfl rfl) ?_
      obtain ⟨y_1, hy_1, g_2⟩ := Sh.bind_some g_2
      refine WpOps.consE (v := (.rop (cGTok y_1))) rfl rfl (Exact.ixr cGTok hy_1 rfl rfl rfl rfl (by kernel_rfl) (by decide)) ?_
      refine WpOps.pn 1 rfl trivial ?_
      refine WpOps.consE (v := (iA y_1.kind)) rfl rfl (Exact.load_rop rfl rfl rfl) ?_
      refine WpOps.pn 2 rfl trivial ?_
      refine WpOps.nil ?_
      obtain rfl := Sh.some_inj g_2
      exact ⟨rfl, rfl⟩
    ·
      replace g_2 := Sh.ite_neg hb g_2
      refine WpOps.pn 9 rfl trivial ?_
      refine WpOps.nil ?_
      obtain rfl := Sh.some_inj g_2
      exact ⟨rfl, rfl⟩
  intro env
  obtain ⟨b_2, g_3, h⟩ := Sh.bind_some h
  refine WpOps.cutB 11 31 (bA b_2) rfl ?_ ?_
  ·
    refine WpOps.pn 1 rfl trivial ?_
    refine WpOps.split 21 rfl (fun hb => ?_) (fun hb => ?_)
    ·
      replace g_3 := Sh.ite_pos hb g_3
      refine WpOps.pn 3 rfl trivial ?_
      refine WpOps.consE (v := (AV.rows 6 (List.map cGTok r_1.l))) rfl rfl (Exact.load rfl rfl (hH.cell (i := 0) rfl) rfl rfl) ?_
      obtain ⟨y_2, hy_2, g_3⟩ := Sh.bind_some g_3
      refine WpOps.consE (v := (.rop (cGTok y_2))) rfl rfl (Exact.ixr cGTok hy_2 rfl rfl rfl rfl (by kernel_rfl) (by decide)) ?_
      refine WpOps.pn 1 rfl trivial ?_
      refine WpOps.consE (v := (sA y_2.text)) rfl rfl (Exact.load_rop rfl rfl rfl) ?_
      refine WpOps.pn 3 rfl trivial ?_
      refine WpOps.nil ?_
      obtain rfl := Sh.some_inj g_3
      exact ⟨rfl, rfl⟩
    ·
      replace g_3 := Sh.ite_neg hb g_3
      refine WpOps.pn 10 rfl trivial ?_
      refine WpOps.nil ?_
      obtain rfl := Sh.some_inj g_3
      exact ⟨rfl, rfl⟩
  intro env
  refine WpOps.pn 1 rfl trivial ?_
  refine WpOps.nil ?_
  obtain rfl := Sh.some_inj h
  refine WpC.ret ?_
  exact VEnds.ret1 rfl rfl ⟨rfl, hH⟩

theorem w_macro_reader_takes {H0 H : Heap} {g_1 : Nat} {r_1 : GMacro_reader} {s_1 : List UInt8} (hH : Holds H0 [.cell g_1 81 (cGMacro_reader r_1)] H) {r : (Bool) × GMacro_reader} (h : macro_reader_takes r_1 s_1 = some r) : TCall Tryd.prog 59 [(.lit (.pointer (some ⟨g_1, 0, none⟩))), (sA s_1)] H (fun v H' => v = (bA r.1) ∧ Holds H0 [.cell g_1 81 (cGMacro_reader r.2)] H') noE := by
  refine TCall.body Tryd.func59 rfl rfl ?_
  refine WpC.seqR ?_
  refine WpOps.pn 1 rfl trivial ?_
  refine WpOps.nil ?_
  refine WpC.seq ?_
  refine WpC.seqR ?_
  obtain ⟨r_2, hr_1, h⟩ := Sh.bind_some h
  refine WpOps.pn 2 rfl trivial ?_
  refine WpOps.consE (v := (bA r_2)) rfl rfl (Exact.call rfl rfl rfl (w_macro_reader_sign (hH.cell (i := 0) rfl) hr_1)) ?_
  refine WpOps.pn 1 rfl trivial ?_
  refine WpOps.nil ?_
  refine WpC.condB rfl (fun hb => ?_) (fun hb => ?_)
  ·
    replace h := Sh.ite_pos hb h
    refine WpC.seqR ?_
    refine WpOps.pn 1 rfl trivial ?_
    refine WpOps.nil ?_
    obtain rfl := Sh.some_inj h
    refine WpC.ret ?_
    exact VEnds.ret1 rfl rfl ⟨rfl, hH⟩
  ·
    replace h := Sh.ite_neg hb h
    refine WpC.skipD ?_
    refine ⟨_, Heap.le_refl _, ?_⟩
    refine WpC.seqR ?_
    refine WpOps.pn 4 rfl trivial ?_
    refine WpOps.consE (v := (AV.rows 6 (List.map cGTok r_1.l))) rfl rfl (Exact.load rfl rfl (hH.cell (i := 0) rfl) rfl rfl) ?_
    obtain ⟨c_1, h⟩ := Sh.chk_some h
    refine WpOps.pn 1 rfl (show 0 ≤ (1 : Int) ∧ True ∧ True ∧ ((1 : Int)).toNat ≤ (List.map cGTok r_1.l).length ∧ True from ⟨(by omega), trivial, trivial, (by simp only [List.length_map]; omega), trivial⟩) ?_
    refine WpOps.at 14 (rows_drop 6 cGTok r_1.l _) ?_
    refine WpOps.pn 2 rfl trivial ?_
    refine WpOps.consG rfl rfl (WpO.putT (cs' := (cGMacro_reader (GMacro_reader.mk (r_1.l.drop ((1 : Int)).toNat)))) (v := (AV.rows 6 (List.map cGTok (r_1.l.drop ((1 : Int)).toNat)))) rfl rfl hH (i := 0) rfl rfl rfl rfl rfl rfl rfl fun H' hH => ?_)
    refine WpOps.nil ?_
    refine WpC.seqR ?_
    refine WpOps.pn 1 rfl trivial ?_
    refine WpOps.nil ?_
    obtain rfl := Sh.some_inj h
    refine WpC.ret ?_
    exact VEnds.ret1 rfl rfl ⟨rfl, hH⟩

theorem w_slices_Index_Lstring_string {H0 : Heap} {s_1 : List (List UInt8)} {v_1 : List UInt8} {r : Int} (h : slices_Index_Lstring_string s_1 v_1 = some r) : TCall Tryd.prog 63 [(AV.rows 1 (List.map cS s_1)), (sA v_1)] H0 (fun v H' => v = (iA r) ∧ H' = H0) noE := by
  refine id (TCall.body Tryd.func63 rfl rfl ?_)
  have hH : Holds H0 [] H0 := rfl
  refine WpC.seqR ?_
  refine WpOps.pn 1 rfl trivial ?_
  refine WpOps.nil ?_
  refine WpC.seq ?_
  refine WpC.seqR ?_
  refine WpOps.pn 2 rfl trivial ?_
  refine WpOps.at 7 (len_map _ _) ?_
  refine WpOps.pn 1 rfl trivial ?_
  refine WpOps.nil ?_
  refine WpC.blockK (fun x : (Unit) × (Unit) => []) (fun x H' => slices_Index_Lstring_string_j1 x.1 = some r ∧ Holds H0 [] H') ?_ ?_
  ·
    obtain ⟨o_1, ho_1, hk_1⟩ := Sh.bind_some h
    refine WpC.loopS (slices_Index_Lstring_string_b2 s_1 v_1) (fun (s : Int) (a : Unit) => [(0, (AV.rows 1 (List.map cS s_1))), (1, (sA v_1)), (7, (iA (s_1.length : Int))), (8, (iA s))]) (fun (s : Int) (a : Unit) H' => Holds H0 [] H') o_1 (0 : Int) () ho_1 ⟨rfl, rfl, rfl, rfl, trivial⟩ hH ?_
    rintro t8_1 _ st_1 env H' h hd_1 hH
    refine WpC.seqR ?_
    refine WpOps.pn 1 rfl trivial ?_
    refine WpOps.nil ?_
    refine WpC.seq ?_
    refine WpC.condB rfl (fun hb => ?_) (fun hb => ?_)
    ·
      replace h := Sh.ite_pos hb h
      refine WpC.skipD ?_
      refine ⟨_, Heap.le_refl _, ?_⟩
      refine WpC.seq ?_
      refine WpC.block ?_
      refine WpC.seqR ?_
      refine WpOps.pn 2 rfl trivial ?_
      refine WpOps.nil ?_
      refine WpC.seqR ?_
      obtain ⟨y_1, hy_1, h⟩ := Sh.bind_some h
      refine WpOps.pn 3 rfl trivial ?_
      refine WpOps.consE (v := (.rop (cS y_1))) rfl rfl (Exact.ixr cS hy_1 rfl rfl rfl rfl (by kernel_rfl) (by decide)) ?_
      refine WpOps.consE (v := (sA y_1)) rfl rfl (Exact.load_rop rfl rfl rfl) ?_
      refine WpOps.pn 1 rfl trivial ?_
      refine WpOps.nil ?_
      refine WpC.condB rfl (fun hb => ?_) (fun hb => ?_)
      ·
        replace h := Sh.ite_pos hb h
        refine WpC.seqR ?_
        refine WpOps.pn 2 rfl trivial ?_
        refine WpOps.nil ?_
        obtain rfl := Sh.some_inj h
        have e := hd_1 _ rfl
        subst e
        have h := hk_1
        obtain rfl := Sh.some_inj h
        refine WpC.ret ?_
        exact VEnds.ret1 rfl rfl ⟨rfl, hH⟩
      ·
        replace h := Sh.ite_neg hb h
        refine WpC.skipD ?_
        refine ⟨_, Heap.le_refl _, ?_⟩
        refine WpC.regionD ?_
        obtain ⟨c_1, h⟩ := Sh.chk_some h
        refine WpOps.pn 2 rfl c_1 ?_
        refine WpOps.nil ?_
        obtain rfl := Sh.some_inj h
        exact ⟨_, (Heap.le_refl _), (t8_1 + (1 : Int)), (), rfl, ⟨rfl, rfl, rfl, rfl, trivial⟩, hH⟩
    ·
      replace h := Sh.ite_neg hb h
      obtain rfl := Sh.some_inj h
      have e := hd_1 _ rfl
      subst e
      refine WpC.exit ?_
      exact ⟨((), ()), trivial, hk_1, hH⟩
  ·
    rintro ⟨_, _⟩ env H' ⟨h, hH⟩
    try dsimp only at h
    refine ⟨_, Heap.le_refl _, ?_⟩
    refine WpC.seqR ?_
    refine WpOps.pn 1 rfl trivial ?_
    refine WpOps.nil ?_
    obtain rfl := Sh.some_inj h
    refine WpC.ret ?_
    exact VEnds.ret1 rfl rfl ⟨rfl, hH⟩

theorem w_slices_Contains_Lstring_string {H0 : Heap} {s_1 : List (List UInt8)} {v_1 : List UInt8} {r : Bool} (h : slices_Contains_Lstring_string s_1 v_1 = some r) : TCall Tryd.prog 86 [(AV.rows 1 (List.map cS s_1)), (sA v_1)] H0 (fun v H' => v = (bA r) ∧ H' = H0) noE := by
  refine id (TCall.body Tryd.func86 rfl rfl ?_)
  have hH : Holds H0 [] H0 := rfl
  refine WpC.seqR ?_
  refine WpOps.pn 1 rfl trivial ?_
  refine WpOps.nil ?_
  refine WpC.seqR ?_
  obtain ⟨r_1, hr_1, h⟩ := Sh.bind_some h
  refine WpOps.pn 2 rfl trivial ?_
  refine WpOps.consE (v := (iA r_1)) rfl rfl (Exact.call rfl rfl rfl (w_slices_Index_Lstring_string hr_1)) ?_
  refine WpOps.pn 2 rfl trivial ?_
  refine WpOps.nil ?_
  obtain rfl := Sh.some_inj h
  refine WpC.ret ?_
  exact VEnds.ret1 rfl rfl ⟨rfl, hH⟩
end Go.Proofs.YtghnfeflknfclaaDoor
