/-
  The code computes what the plain functions say. Printed by a tool.
-/
import Derived.Test.YtfocleohejljpaaDoorT
import Derived.Test.YtfocleohejljpaaDoorPe
import Derived.Test.YtfocleohejljpaaDoorChecked
import Derived.Test.YtfocleohejljpaaDoorLi
import Derived.Test.YtfocleohejljpaaDoorCh
import Derived.Test.YtfocleohejljpaaDoorTw
set_option linter.unusedVariables false
set_option linter.unusedSimpArgs false
set_option maxRecDepth 20000
set_option maxHeartbeats 8000000
namespace Go.Proofs.YtfocleohejljpaaDoor
open Go Go.Vc Go.Sh
attribute [local irreducible] WpC WpOps WpPi WpO Exact TCall VEnds Sh.loopS
theorem ek41 : ElemOk Tryd.prog 41 44 6 56 := ElemOk.of (by kernel_rfl)
theorem ek58 : ElemOk Tryd.prog 58 85 2 16 := ElemOk.of (by kernel_rfl)
theorem ek78 : ElemOk Tryd.prog 78 5 1 1 := ElemOk.of (by kernel_rfl)
theorem w_glue_Text_c1 {H0 : Heap} {t_1 : GTok} {r : List UInt8} (h : glue_Text_c1 t_1 = some r) : TCall Tryd.prog 51 [(AV.agg (cGTok t_1))] H0 (fun v H' => v = (sA r) ∧ H' = H0) noE := by
  refine id (TCall.body Tryd.func51 rfl rfl ?_)
  have hH : Holds H0 [] H0 := rfl
  refine WpC.seqR ?_
  refine WpOps.consG rfl rfl (WpO.boxT (v := (AV.agg (cGTok t_1))) rfl rfl hH fun g_1 H' hH => ?_)
  refine WpOps.pn 1 rfl trivial ?_
  refine WpOps.nil ?_
  refine WpC.seqR ?_
  refine WpOps.pn 1 rfl trivial ?_
  refine WpOps.consE (v := (sA t_1.text)) rfl rfl (Exact.load rfl rfl (hH.cell (i := 0) rfl) rfl rfl) ?_
  refine WpOps.pn 1 rfl trivial ?_
  refine WpOps.nil ?_
  refine WpC.lose (i := 0) hH rfl (fun H' hH => ?_)
  obtain rfl := Sh.some_inj h
  refine WpC.ret ?_
  exact VEnds.ret1 rfl rfl ⟨rfl, hH⟩

theorem w_glue_joined__glue_Text_c1 {H0 : Heap} {l_1 : List GTok} {r : List UInt8} (h : glue_joined__glue_Text_c1 l_1 = some r) : TCall Tryd.prog 50 [(AV.rows 6 (List.map cGTok l_1)), (.clo (.func 51) [] [])] H0 (fun v H' => v = (sA r) ∧ H' = H0) noE := by
  refine id (TCall.body Tryd.func50 rfl rfl ?_)
  have hH : Holds H0 [] H0 := rfl
  refine WpC.seqR ?_
  refine WpOps.pn 1 rfl trivial ?_
  refine WpOps.nil ?_
  refine WpC.seqR ?_
  refine WpOps.consG rfl rfl (WpO.allocT rfl rfl hH fun g_1 H' hH => ?_)
  have hH := Holds.bld_new 5 hH
  refine WpOps.nil ?_
  refine WpC.seqR ?_
  refine WpOps.pn 2 rfl trivial ?_
  refine WpOps.nil ?_
  refine WpC.seq ?_
  refine WpC.seqR ?_
  refine WpOps.pn 2 rfl trivial ?_
  refine WpOps.at 11 (len_map _ _) ?_
  refine WpOps.pn 1 rfl trivial ?_
  refine WpOps.nil ?_
  refine WpC.blockK (fun x : (List UInt8) × (Unit) => [(5, (.lit (.pointer (some ⟨g_1, 0, none⟩))))]) (fun x H' => glue_joined__glue_Text_c1_j1 x.1 = some r ∧ Holds H0 [.bld g_1 98 5 x.1] H') ?_ ?_
  ·
    obtain ⟨o_1, ho_1, hk_1⟩ := Sh.bind_some h
    refine WpC.loopS (glue_joined__glue_Text_c1_b2 l_1) (fun (s : Bool × Bool × Int × List UInt8) (a : Unit) => [(1, (.clo (.func 51) [] [])), (5, (.lit (.pointer (some ⟨g_1, 0, none⟩)))), (6, (bA s.1)), (7, (bA s.2.1)), (10, (AV.rows 6 (List.map cGTok l_1))), (11, (iA (l_1.length : Int))), (12, (iA s.2.2.1))]) (fun (s : Bool × Bool × Int × List UInt8) (a : Unit) H' => Holds H0 [.bld g_1 98 5 s.2.2.2] H') o_1 (false, false, (0 : Int), ([] : List UInt8)) () ho_1 ⟨rfl, rfl, rfl, rfl, rfl, rfl, rfl, trivial⟩ hH ?_
    rintro ⟨blank_1, some_1, t12_1, out_1⟩ _ st_1 env H' h hd_1 hH
    refine WpC.seqR ?_
    refine WpOps.pn 1 rfl trivial ?_
    refine WpOps.nil ?_
    refine WpC.seq ?_
    refine WpC.condB rfl (fun hb => ?_) (fun hb => ?_)
    ·
      replace h := Sh.ite_pos hb h
      refine WpC.skipD ?_
      refine ⟨_, Heap.le_refl _, ?_⟩
      refine WpC.seq ?_
      refine WpC.block ?_
      refine WpC.seqR ?_
      obtain ⟨y_1, hy_1, h⟩ := Sh.bind_some h
      refine WpOps.consE (v := (.rop (cGTok y_1))) rfl rfl (Exact.ixr cGTok hy_1 rfl rfl rfl rfl (by kernel_rfl) (by decide)) ?_
      refine WpOps.consE (v := (AV.agg (cGTok y_1))) rfl rfl (Exact.load_rop rfl rfl rfl) ?_
      refine WpOps.consG rfl rfl (WpO.allocT (z := cGTok (GTok.mk (0 : Int) ([] : List UInt8) (0 : Int) (0 : Int) (0 : Int) false)) rfl rfl hH fun g_2 H' hH => ?_)
      refine WpOps.consG rfl rfl (WpO.putT (cs' := cGTok y_1) (v := (AV.agg (cGTok y_1))) rfl rfl hH (i := 0) rfl rfl rfl rfl rfl rfl rfl fun H' hH => ?_)
      refine WpOps.nil ?_
      refine WpC.seq ?_
      refine WpC.seqR ?_
      refine WpOps.pn 1 rfl trivial ?_
      refine WpOps.consE (v := (iA y_1.kind)) rfl rfl (Exact.load rfl rfl (hH.cell (i := 0) rfl) rfl rfl) ?_
      refine WpOps.pn 1 rfl trivial ?_
      refine WpOps.nil ?_
      refine WpC.condB rfl (fun hb => ?_) (fun hb => ?_)
      ·
        replace h := Sh.ite_pos hb h
        refine WpC.seqR ?_
        refine WpOps.pn 1 rfl trivial ?_
        refine WpOps.nil ?_
        refine WpC.exitD ?_
        refine ⟨_, Heap.le_refl _, ?_⟩
        refine WpC.regionD ?_
        obtain ⟨c_1, h⟩ := Sh.chk_some h
        refine WpOps.pn 2 rfl c_1 ?_
        refine WpOps.nil ?_
        obtain ⟨_, hle_1, hH⟩ := hH.lose_ (i := 0) rfl
        obtain rfl := Sh.some_inj h
        exact ⟨_, hle_1, (true, some_1, (t12_1 + (1 : Int)), out_1), (), rfl, ⟨rfl, rfl, rfl, rfl, rfl, rfl, rfl, trivial⟩, hH⟩
      ·
        replace h := Sh.ite_neg hb h
        refine WpC.skipD ?_
        refine ⟨_, Heap.le_refl _, ?_⟩
        refine WpC.seqK (fun x : (List UInt8) × (Unit) => [(1, (.clo (.func 51) [] [])), (5, (.lit (.pointer (some ⟨g_1, 0, none⟩)))), (9, (.lit (.pointer (some ⟨g_2, 0, none⟩)))), (10, (AV.rows 6 (List.map cGTok l_1))), (11, (iA (l_1.length : Int))), (12, (iA t12_1))]) (fun x H' => (glue_joined__glue_Text_c1_j3 t12_1 y_1) x.1 = some st_1 ∧ Holds H0 [.cell g_2 44 (cGTok y_1), .bld g_1 98 5 x.1] H') ?_ ?_
        ·
          refine WpC.seqR ?_
          refine WpOps.pn 1 rfl trivial ?_
          obtain ⟨b_1, g_3, h⟩ := Sh.bind_some h
          refine WpOps.cutB 7 26 (bA b_1) rfl ?_ ?_
          ·
            refine WpOps.pn 1 rfl trivial ?_
            refine WpOps.split 20 rfl (fun hb => ?_) (fun hb => ?_)
            ·
              replace g_3 := Sh.ite_pos hb g_3
              refine WpOps.pn 1 rfl trivial ?_
              obtain ⟨b_2, g_4, g_3⟩ := Sh.bind_some g_3
              refine WpOps.cutB 4 25 (bA b_2) rfl ?_ ?_
              ·
                refine WpOps.pn 1 rfl trivial ?_
                refine WpOps.split 22 rfl (fun hb => ?_) (fun hb => ?_)
                ·
                  replace g_4 := Sh.ite_pos hb g_4
                  refine WpOps.pn 3 rfl trivial ?_
                  refine WpOps.nil ?_
                  obtain rfl := Sh.some_inj g_4
                  exact ⟨rfl, rfl⟩
                ·
                  replace g_4 := Sh.ite_neg hb g_4
                  refine WpOps.pn 1 rfl trivial ?_
                  refine WpOps.consE (v := (bA y_1.blank)) rfl rfl (Exact.load rfl rfl (hH.cell (i := 0) rfl) rfl rfl) ?_
                  refine WpOps.pn 1 rfl trivial ?_
                  refine WpOps.nil ?_
                  obtain rfl := Sh.some_inj g_4
                  exact ⟨rfl, rfl⟩
              intro env
              refine WpOps.pn 1 rfl trivial ?_
              refine WpOps.nil ?_
              obtain rfl := Sh.some_inj g_3
              exact ⟨rfl, rfl⟩
            ·
              replace g_3 := Sh.ite_neg hb g_3
              refine WpOps.pn 6 rfl trivial ?_
              refine WpOps.nil ?_
              obtain rfl := Sh.some_inj g_3
              exact ⟨rfl, rfl⟩
          intro env
          refine WpOps.nil ?_
          refine WpC.condB rfl (fun hb => ?_) (fun hb => ?_)
          ·
            replace h := Sh.ite_pos hb h
            refine WpC.regionD ?_
            obtain ⟨c_2, h⟩ := Sh.chk_some h
            refine WpOps.consG rfl rfl (WpO.callT (v := .lit .nilIface) rfl rfl rfl hH (i := 1) rfl (fun H1 hl hh => w_WriteByte (c := (32 : UInt8)) c_2 hh) fun H' hH => ?_)
            refine WpOps.nil ?_
            exact ⟨_, (Heap.le_refl _), ((out_1 ++ [(32 : UInt8)]), ()), ⟨rfl, rfl, rfl, rfl, rfl, rfl, trivial⟩, h, hH⟩
          ·
            replace h := Sh.ite_neg hb h
            refine WpC.skipD ?_
            exact ⟨_, (Heap.le_refl _), (out_1, ()), ⟨rfl, rfl, rfl, rfl, rfl, rfl, trivial⟩, h, hH⟩
        ·
          rintro ⟨out_2, _⟩ env H' ⟨h, hH⟩
          try dsimp only at h
          refine WpC.seqR ?_
          refine WpOps.pn 1 rfl trivial ?_
          refine WpOps.consE (v := (AV.agg (cGTok y_1))) rfl rfl (Exact.load rfl rfl (hH.cell (i := 0) rfl) rfl rfl) ?_
          obtain ⟨r_1, hr_1, h⟩ := Sh.bind_some h
          refine WpOps.consE (v := (sA r_1)) rfl rfl (Exact.call_clo rfl rfl rfl rfl (w_glue_Text_c1 hr_1)) ?_
          obtain ⟨c_3, h⟩ := Sh.chk_some h
          refine WpOps.consG rfl rfl (WpO.callT (v := .tup [iA r_1.length, .lit .nilIface]) rfl rfl rfl hH (i := 1) rfl (fun H1 hl hh => w_WriteString c_3 hh) fun H' hH => ?_)
          refine WpOps.nil ?_
          refine WpC.regionD ?_
          refine WpOps.pn 2 rfl trivial ?_
          refine WpOps.nil ?_
          refine ⟨_, Heap.le_refl _, ?_⟩
          refine WpC.regionD ?_
          obtain ⟨c_4, h⟩ := Sh.chk_some h
          refine WpOps.pn 2 rfl c_4 ?_
          refine WpOps.nil ?_
          obtain ⟨_, hle_2, hH⟩ := hH.lose_ (i := 0) rfl
          obtain rfl := Sh.some_inj h
          exact ⟨_, hle_2, (false, true, (t12_1 + (1 : Int)), (out_2 ++ r_1)), (), rfl, ⟨rfl, rfl, rfl, rfl, rfl, rfl, rfl, trivial⟩, hH⟩
    ·
      replace h := Sh.ite_neg hb h
      obtain rfl := Sh.some_inj h
      have e := hd_1 _ rfl
      subst e
      refine WpC.exit ?_
      exact ⟨(out_1, ()), ⟨rfl, trivial⟩, hk_1, hH⟩
  ·
    rintro ⟨out_3, _⟩ env H' ⟨h, hH⟩
    try dsimp only at h
    refine ⟨_, Heap.le_refl _, ?_⟩
    refine WpC.seqR ?_
    refine WpOps.consG rfl rfl (WpO.callT0 (v := sA out_3) rfl rfl rfl hH (i := 0) rfl (fun H1 hh => w_String hh) fun H' hH => ?_)
    refine WpOps.pn 1 rfl trivial ?_
    refine WpOps.nil ?_
    obtain rfl := Sh.some_inj h
    refine WpC.ret ?_
    exact VEnds.ret1 rfl rfl ⟨rfl, hH⟩

theorem w_glue_Text {H0 : Heap} {l_1 : List GTok} {r : List UInt8} (h : glue_Text l_1 = some r) : TCall Tryd.prog 25 [(AV.rows 6 (List.map cGTok l_1))] H0 (fun v H' => v = (sA r) ∧ H' = H0) noE := by
  refine id (TCall.body Tryd.func25 rfl rfl ?_)
  have hH : Holds H0 [] H0 := rfl
  refine WpC.seqR ?_
  refine WpOps.pn 1 rfl trivial ?_
  refine WpOps.nil ?_
  refine WpC.seqR ?_
  obtain ⟨r_1, hr_1, h⟩ := Sh.bind_some h
  refine WpOps.pn 1 rfl trivial ?_
  refine WpOps.consE (v := (sA r_1)) rfl rfl (Exact.call rfl rfl rfl (w_glue_joined__glue_Text_c1 hr_1)) ?_
  refine WpOps.pn 1 rfl trivial ?_
  refine WpOps.nil ?_
  obtain rfl := Sh.some_inj h
  refine WpC.ret ?_
  exact VEnds.ret1 rfl rfl ⟨rfl, hH⟩

theorem w_glue_escaped {H0 : Heap} (hG : Glob H0) {t_1 : GTok} {r : List UInt8} (h : glue_escaped t_1 = some r) : TCall Tryd.prog 52 [(AV.agg (cGTok t_1))] H0 (fun v H' => v = (sA r) ∧ H' = H0) noE := by
  refine id (TCall.body Tryd.func52 rfl rfl ?_)
  have hH : Holds H0 [] H0 := rfl
  refine WpC.seqR ?_
  refine WpOps.consG rfl rfl (WpO.boxT (v := (AV.agg (cGTok t_1))) rfl rfl hH fun g_1 H' hH => ?_)
  refine WpOps.pn 1 rfl trivial ?_
  refine WpOps.nil ?_
  refine WpC.seq ?_
  refine WpC.seqR ?_
  refine WpOps.pn 1 rfl trivial ?_
  refine WpOps.consE (v := (iA t_1.kind)) rfl rfl (Exact.load rfl rfl (hH.cell (i := 0) rfl) rfl rfl) ?_
  refine WpOps.pn 1 rfl trivial ?_
  obtain ⟨b_1, g_2, h⟩ := Sh.bind_some h
  refine WpOps.cutB 5 11 (bA b_1) rfl ?_ ?_
  ·
    refine WpOps.pn 1 rfl trivial ?_
    refine WpOps.split 7 rfl (fun hb => ?_) (fun hb => ?_)
    ·
      replace g_2 := Sh.ite_pos hb g_2
      refine WpOps.pn 1 rfl trivial ?_
      refine WpOps.consE (v := (iA t_1.kind)) rfl rfl (Exact.load rfl rfl (hH.cell (i := 0) rfl) rfl rfl) ?_
      refine WpOps.pn 2 rfl trivial ?_
      refine WpOps.nil ?_
      obtain rfl := Sh.some_inj g_2
      exact ⟨rfl, rfl⟩
    ·
      replace g_2 := Sh.ite_neg hb g_2
      refine WpOps.pn 4 rfl trivial ?_
      refine WpOps.nil ?_
      obtain rfl := Sh.some_inj g_2
      exact ⟨rfl, rfl⟩
  intro env
  refine WpOps.nil ?_
  refine WpC.condB rfl (fun hb => ?_) (fun hb => ?_)
  ·
    replace h := Sh.ite_pos hb h
    refine WpC.seqR ?_
    refine WpOps.pn 1 rfl trivial ?_
    refine WpOps.consE (v := (sA t_1.text)) rfl rfl (Exact.load rfl rfl (hH.cell (i := 0) rfl) rfl rfl) ?_
    refine WpOps.pn 1 rfl trivial ?_
    refine WpOps.nil ?_
    refine WpC.lose (i := 0) hH rfl (fun H' hH => ?_)
    obtain rfl := Sh.some_inj h
    refine WpC.ret ?_
    exact VEnds.ret1 rfl rfl ⟨rfl, hH⟩
  ·
    replace h := Sh.ite_neg hb h
    refine WpC.skipD ?_
    refine ⟨_, Heap.le_refl _, ?_⟩
    refine WpC.seqR ?_
    refine WpOps.pn 1 rfl trivial ?_
    refine WpOps.consE (v := (sA t_1.text)) rfl rfl (Exact.load rfl rfl (hH.cell (i := 0) rfl) rfl rfl) ?_
    obtain ⟨c_1, h⟩ := Sh.chk_some h
    refine WpOps.consE (v := (sA (Lib.replaceAll t_1.text ([92] : List UInt8) ([92, 92] : List UInt8)))) rfl rfl (Exact.call rfl rfl rfl (l_ReplaceAll t_1.text ([92] : List UInt8) ([92, 92] : List UInt8) (hG.up hH).i c_1)) ?_
    refine WpOps.pn 1 rfl trivial ?_
    refine WpOps.nil ?_
    refine WpC.seqR ?_
    obtain ⟨c_2, h⟩ := Sh.chk_some h
    refine WpOps.pn 1 rfl trivial ?_
    refine WpOps.consE (v := (sA (Lib.replaceAll (Lib.replaceAll t_1.text ([92] : List UInt8) ([92, 92] : List UInt8)) ([34] : List UInt8) ([92, 34] : List UInt8)))) rfl rfl (Exact.call rfl rfl rfl (l_ReplaceAll (Lib.replaceAll t_1.text ([92] : List UInt8) ([92, 92] : List UInt8)) ([34] : List UInt8) ([92, 34] : List UInt8) (hG.up hH).i c_2)) ?_
    refine WpOps.pn 1 rfl trivial ?_
    refine WpOps.nil ?_
    refine WpC.lose (i := 0) hH rfl (fun H' hH => ?_)
    obtain rfl := Sh.some_inj h
    refine WpC.ret ?_
    exact VEnds.ret1 rfl rfl ⟨rfl, hH⟩

theorem w_glue_joined__glue_escaped {H0 : Heap} (hG : Glob H0) {l_1 : List GTok} {r : List UInt8} (h : glue_joined__glue_escaped l_1 = some r) : TCall Tryd.prog 50 [(AV.rows 6 (List.map cGTok l_1)), (.clo (.func 52) [] [])] H0 (fun v H' => v = (sA r) ∧ H' = H0) noE := by
  refine id (TCall.body Tryd.func50 rfl rfl ?_)
  have hH : Holds H0 [] H0 := rfl
  refine WpC.seqR ?_
  refine WpOps.pn 1 rfl trivial ?_
  refine WpOps.nil ?_
  refine WpC.seqR ?_
  refine WpOps.consG rfl rfl (WpO.allocT rfl rfl hH fun g_1 H' hH => ?_)
  have hH := Holds.bld_new 5 hH
  refine WpOps.nil ?_
  refine WpC.seqR ?_
  refine WpOps.pn 2 rfl trivial ?_
  refine WpOps.nil ?_
  refine WpC.seq ?_
  refine WpC.seqR ?_
  refine WpOps.pn 2 rfl trivial ?_
  refine WpOps.at 11 (len_map _ _) ?_
  refine WpOps.pn 1 rfl trivial ?_
  refine WpOps.nil ?_
  refine WpC.blockK (fun x : (List UInt8) × (Unit) => [(5, (.lit (.pointer (some ⟨g_1, 0, none⟩))))]) (fun x H' => glue_joined__glue_escaped_j1 x.1 = some r ∧ Holds H0 [.bld g_1 98 5 x.1] H') ?_ ?_
  ·
    obtain ⟨o_1, ho_1, hk_1⟩ := Sh.bind_some h
    refine WpC.loopS (glue_joined__glue_escaped_b2 l_1) (fun (s : Bool × Bool × Int × List UInt8) (a : Unit) => [(1, (.clo (.func 52) [] [])), (5, (.lit (.pointer (some ⟨g_1, 0, none⟩)))), (6, (bA s.1)), (7, (bA s.2.1)), (10, (AV.rows 6 (List.map cGTok l_1))), (11, (iA (l_1.length : Int))), (12, (iA s.2.2.1))]) (fun (s : Bool × Bool × Int × List UInt8) (a : Unit) H' => Holds H0 [.bld g_1 98 5 s.2.2.2] H') o_1 (false, false, (0 : Int), ([] : List UInt8)) () ho_1 ⟨rfl, rfl, rfl, rfl, rfl, rfl, rfl, trivial⟩ hH ?_
    rintro ⟨blank_1, some_1, t12_1, out_1⟩ _ st_1 env H' h hd_1 hH
    refine WpC.seqR ?_
    refine WpOps.pn 1 rfl trivial ?_
    refine WpOps.nil ?_
    refine WpC.seq ?_
    refine WpC.condB rfl (fun hb => ?_) (fun hb => ?_)
    ·
      replace h := Sh.ite_pos hb h
      refine WpC.skipD ?_
      refine ⟨_, Heap.le_refl _, ?_⟩
      refine WpC.seq ?_
      refine WpC.block ?_
      refine WpC.seqR ?_
      obtain ⟨y_1, hy_1, h⟩ := Sh.bind_some h
      refine WpOps.consE (v := (.rop (cGTok y_1))) rfl rfl (Exact.ixr cGTok hy_1 rfl rfl rfl rfl (by kernel_rfl) (by decide)) ?_
      refine WpOps.consE (v := (AV.agg (cGTok y_1))) rfl rfl (Exact.load_rop rfl rfl rfl) ?_
      refine WpOps.consG rfl rfl (WpO.allocT (z := cGTok (GTok.mk (0 : Int) ([] : List UInt8) (0 : Int) (0 : Int) (0 : Int) false)) rfl rfl hH fun g_2 H' hH => ?_)
      refine WpOps.consG rfl rfl (WpO.putT (cs' := cGTok y_1) (v := (AV.agg (cGTok y_1))) rfl rfl hH (i := 0) rfl rfl rfl rfl rfl rfl rfl fun H' hH => ?_)
      refine WpOps.nil ?_
      refine WpC.seq ?_
      refine WpC.seqR ?_
      refine WpOps.pn 1 rfl trivial ?_
      refine WpOps.consE (v := (iA y_1.kind)) rfl rfl (Exact.load rfl rfl (hH.cell (i := 0) rfl) rfl rfl) ?_
      refine WpOps.pn 1 rfl trivial ?_
      refine WpOps.nil ?_
      refine WpC.condB rfl (fun hb => ?_) (fun hb => ?_)
      ·
        replace h := Sh.ite_pos hb h
        refine WpC.seqR ?_
        refine WpOps.pn 1 rfl trivial ?_
        refine WpOps.nil ?_
        refine WpC.exitD ?_
        refine ⟨_, Heap.le_refl _, ?_⟩
        refine WpC.regionD ?_
        obtain ⟨c_1, h⟩ := Sh.chk_some h
        refine WpOps.pn 2 rfl c_1 ?_
        refine WpOps.nil ?_
        obtain ⟨_, hle_1, hH⟩ := hH.lose_ (i := 0) rfl
        obtain rfl := Sh.some_inj h
        exact ⟨_, hle_1, (true, some_1, (t12_1 + (1 : Int)), out_1), (), rfl, ⟨rfl, rfl, rfl, rfl, rfl, rfl, rfl, trivial⟩, hH⟩
      ·
        replace h := Sh.ite_neg hb h
        refine WpC.skipD ?_
        refine ⟨_, Heap.le_refl _, ?_⟩
        refine WpC.seqK (fun x : (List UInt8) × (Unit) => [(1, (.clo (.func 52) [] [])), (5, (.lit (.pointer (some ⟨g_1, 0, none⟩)))), (9, (.lit (.pointer (some ⟨g_2, 0, none⟩)))), (10, (AV.rows 6 (List.map cGTok l_1))), (11, (iA (l_1.length : Int))), (12, (iA t12_1))]) (fun x H' => (glue_joined__glue_escaped_j3 t12_1 y_1) x.1 = some st_1 ∧ Holds H0 [.cell g_2 44 (cGTok y_1), .bld g_1 98 5 x.1] H') ?_ ?_
        ·
          refine WpC.seqR ?_
          refine WpOps.pn 1 rfl trivial ?_
          obtain ⟨b_1, g_3, h⟩ := Sh.bind_some h
          refine WpOps.cutB 7 26 (bA b_1) rfl ?_ ?_
          ·
            refine WpOps.pn 1 rfl trivial ?_
            refine WpOps.split 20 rfl (fun hb => ?_) (fun hb => ?_)
            ·
              replace g_3 := Sh.ite_pos hb g_3
              refine WpOps.pn 1 rfl trivial ?_
              obtain ⟨b_2, g_4, g_3⟩ := Sh.bind_some g_3
              refine WpOps.cutB 4 25 (bA b_2) rfl ?_ ?_
              ·
                refine WpOps.pn 1 rfl trivial ?_
                refine WpOps.split 22 rfl (fun hb => ?_) (fun hb => ?_)
                ·
                  replace g_4 := Sh.ite_pos hb g_4
                  refine WpOps.pn 3 rfl trivial ?_
                  refine WpOps.nil ?_
                  obtain rfl := Sh.some_inj g_4
                  exact ⟨rfl, rfl⟩
                ·
                  replace g_4 := Sh.ite_neg hb g_4
                  refine WpOps.pn 1 rfl trivial ?_
                  refine WpOps.consE (v := (bA y_1.blank)) rfl rfl (Exact.load rfl rfl (hH.cell (i := 0) rfl) rfl rfl) ?_
                  refine WpOps.pn 1 rfl trivial ?_
                  refine WpOps.nil ?_
                  obtain rfl := Sh.some_inj g_4
                  exact ⟨rfl, rfl⟩
              intro env
              refine WpOps.pn 1 rfl trivial ?_
              refine WpOps.nil ?_
              obtain rfl := Sh.some_inj g_3
              exact ⟨rfl, rfl⟩
            ·
              replace g_3 := Sh.ite_neg hb g_3
              refine WpOps.pn 6 rfl trivial ?_
              refine WpOps.nil ?_
              obtain rfl := Sh.some_inj g_3
              exact ⟨rfl, rfl⟩
          intro env
          refine WpOps.nil ?_
          refine WpC.condB rfl (fun hb => ?_) (fun hb => ?_)
          ·
            replace h := Sh.ite_pos hb h
            refine WpC.regionD ?_
            obtain ⟨c_2, h⟩ := Sh.chk_some h
            refine WpOps.consG rfl rfl (WpO.callT (v := .lit .nilIface) rfl rfl rfl hH (i := 1) rfl (fun H1 hl hh => w_WriteByte (c := (32 : UInt8)) c_2 hh) fun H' hH => ?_)
            refine WpOps.nil ?_
            exact ⟨_, (Heap.le_refl _), ((out_1 ++ [(32 : UInt8)]), ()), ⟨rfl, rfl, rfl, rfl, rfl, rfl, trivial⟩, h, hH⟩
          ·
            replace h := Sh.ite_neg hb h
            refine WpC.skipD ?_
            exact ⟨_, (Heap.le_refl _), (out_1, ()), ⟨rfl, rfl, rfl, rfl, rfl, rfl, trivial⟩, h, hH⟩
        ·
          rintro ⟨out_2, _⟩ env H' ⟨h, hH⟩
          try dsimp only at h
          refine WpC.seqR ?_
          refine WpOps.pn 1 rfl trivial ?_
          refine WpOps.consE (v := (AV.agg (cGTok y_1))) rfl rfl (Exact.load rfl rfl (hH.cell (i := 0) rfl) rfl rfl) ?_
          obtain ⟨r_1, hr_1, h⟩ := Sh.bind_some h
          refine WpOps.consE (v := (sA r_1)) rfl rfl (Exact.call_clo rfl rfl rfl rfl (w_glue_escaped (hG.up hH) hr_1)) ?_
          obtain ⟨c_3, h⟩ := Sh.chk_some h
          refine WpOps.consG rfl rfl (WpO.callT (v := .tup [iA r_1.length, .lit .nilIface]) rfl rfl rfl hH (i := 1) rfl (fun H1 hl hh => w_WriteString c_3 hh) fun H' hH => ?_)
          refine WpOps.nil ?_
          refine WpC.regionD ?_
          refine WpOps.pn 2 rfl trivial ?_
          refine WpOps.nil ?_
          refine ⟨_, Heap.le_refl _, ?_⟩
          refine WpC.regionD ?_
          obtain ⟨c_4, h⟩ := Sh.chk_some h
          refine WpOps.pn 2 rfl c_4 ?_
          refine WpOps.nil ?_
          obtain ⟨_, hle_2, hH⟩ := hH.lose_ (i := 0) rfl
          obtain rfl := Sh.some_inj h
          exact ⟨_, hle_2, (false, true, (t12_1 + (1 : Int)), (out_2 ++ r_1)), (), rfl, ⟨rfl, rfl, rfl, rfl, rfl, rfl, rfl, trivial⟩, hH⟩
    ·
      replace h := Sh.ite_neg hb h
      obtain rfl := Sh.some_inj h
      have e := hd_1 _ rfl
      subst e
      refine WpC.exit ?_
      exact ⟨(out_1, ()), ⟨rfl, trivial⟩, hk_1, hH⟩
  ·
    rintro ⟨out_3, _⟩ env H' ⟨h, hH⟩
    try dsimp only at h
    refine ⟨_, Heap.le_refl _, ?_⟩
    refine WpC.seqR ?_
    refine WpOps.consG rfl rfl (WpO.callT0 (v := sA out_3) rfl rfl rfl hH (i := 0) rfl (fun H1 hh => w_String hh) fun H' hH => ?_)
    refine WpOps.pn 1 rfl trivial ?_
    refine WpOps.nil ?_
    obtain rfl := Sh.some_inj h
    refine WpC.ret ?_
    exact VEnds.ret1 rfl rfl ⟨rfl, hH⟩

theorem w_glue_String {H0 : Heap} (hG : Glob H0) {l_1 : List GTok} {r : GTok} (h : glue_String l_1 = some r) : TCall Tryd.prog 26 [(AV.rows 6 (List.map cGTok l_1))] H0 (fun v H' => v = (AV.agg (cGTok r)) ∧ H' = H0) noE := by
  refine TCall.up (TCall.body Tryd.func26 rfl rfl ?_)
  have hH : Holds H0 [] H0 := rfl
  refine WpC.seqR ?_
  refine WpOps.consG rfl rfl (WpO.allocT (z := cGTok (GTok.mk (0 : Int) ([] : List UInt8) (0 : Int) (0 : Int) (0 : Int) false)) rfl rfl hH fun g_1 H' hH => ?_)
  refine WpOps.nil ?_
  refine WpC.seqR ?_
  obtain ⟨r_1, hr_1, h⟩ := Sh.bind_some h
  refine WpOps.pn 1 rfl trivial ?_
  refine WpOps.consE (v := (sA r_1)) rfl rfl (Exact.call rfl rfl rfl (w_glue_joined__glue_escaped (hG.up hH) hr_1)) ?_
  obtain ⟨c_1, h⟩ := Sh.chk_some h
  obtain ⟨c_2, h⟩ := Sh.chk_some h
  refine WpOps.pn 3 rfl ⟨c_2, c_1⟩ ?_
  refine WpOps.consG rfl rfl (WpO.putT (cs' := cGTok (GTok.mk (4 : Int) ((([34] : List UInt8) ++ r_1) ++ ([34] : List UInt8)) (0 : Int) (0 : Int) (0 : Int) false)) (v := (AV.agg (cGTok (GTok.mk (4 : Int) ((([34] : List UInt8) ++ r_1) ++ ([34] : List UInt8)) (0 : Int) (0 : Int) (0 : Int) false)))) rfl rfl hH (i := 0) rfl rfl rfl rfl rfl rfl rfl fun H' hH => ?_)
  refine WpOps.nil ?_
  obtain rfl := Sh.some_inj h
  refine WpC.ret ?_
  have hr := hH
  obtain ⟨_, hle_1, hx_1⟩ := hH.lose_ (i := 0) rfl
  exact VEnds.retG rfl (.cell rfl (hH.cell (i := 0) rfl) rfl rfl .nil) ⟨_, _, Up.drop hle_1 _, rfl, hx_1⟩

theorem w_splice_Join {H0 : Heap} {text_1 : List UInt8} {r : List GChar} (h : splice_Join text_1 = some r) : TCall Tryd.prog 54 [(sA text_1)] H0 (fun v H' => v = (AV.rows 2 (List.map cGChar r)) ∧ H' = H0) noE := by
  refine id (TCall.body Tryd.func54 rfl rfl ?_)
  have hH : Holds H0 [] H0 := rfl
  refine WpC.seqR ?_
  refine WpOps.pn 1 rfl trivial ?_
  refine WpOps.nil ?_
  refine WpC.seqR ?_
  refine WpOps.consG rfl rfl (WpO.allocT rfl rfl hH fun g_1 H' hH => ?_)
  have hH := hH.nil 85 2
  refine WpOps.nil ?_
  refine WpC.seq ?_
  refine WpC.seqR ?_
  obtain ⟨it_1, hit_1, h⟩ := Sh.bind_some h
  refine WpOps.pn 1 rfl trivial ?_
  refine WpOps.consG rfl rfl (WpO.callN rfl rfl rfl hH (fun HH => w_chars HH) fun g_2 H' hH => ?_)
  refine WpOps.nil ?_
  refine WpC.block ?_
  obtain ⟨o_1, ho_1, hk_1⟩ := Sh.bind_some h
  refine WpC.rangeS splice_Join_b1 it_1 (fun x : GChar => [AV.agg (cGChar x)]) (fun (s : List GChar) (a : (Option (Nat × Nat))) => [.cell g_2 9 (cS text_1), .own 85 2 a (List.map cGChar s), .cell g_1 58 [.own (List.map cGChar s).length a]]) o_1 ([] : List GChar) none ho_1 rfl rfl (by decide) (by obtain ⟨hl, e⟩ := chars_some hit_1; rw [e]; exact w_chars_c1 hl (Heap.one_at _ _)) (fun _ => rfl) (fun s a H hH => Heap.one_le (hH.cell (i := 0) rfl)) hH ?_ ?_
  ·
    rintro x_1 l_1 p_1 st_1 H' h hd_1 hH
    refine WpC.regionD ?_
    refine WpOps.consG rfl rfl (WpO.allocT (z := cGChar (GChar.mk (0 : UInt8) (0 : Int))) rfl rfl hH fun g_3 H' hH => ?_)
    refine WpOps.consG rfl rfl (WpO.putT (cs' := cGChar x_1) (v := (AV.agg (cGChar x_1))) rfl rfl hH (i := 0) rfl rfl rfl rfl rfl rfl rfl fun H' hH => ?_)
    refine WpOps.nil ?_
    refine ⟨_, Heap.le_refl _, ?_⟩
    refine WpC.block ?_
    refine WpC.regionD ?_
    refine WpOps.consE rfl rfl (Exact.load rfl rfl (hH.cell (i := 3) rfl) rfl rfl) ?_
    refine WpOps.consE (v := (AV.agg (cGChar x_1))) rfl rfl (Exact.load rfl rfl (hH.cell (i := 0) rfl) rfl rfl) ?_
    refine WpOps.consE (v := (AV.rows 2 (List.map cGChar ([x_1] : List GChar)))) rfl rfl (Exact.litSlice rfl (by kernel_rfl)) ?_
    obtain ⟨c_1, h⟩ := Sh.chk_some h
    refine WpOps.consG rfl rfl (WpO.pushT cGChar l_1 ([x_1] : List GChar) (i := 2) rfl ek58 hH rfl rfl rfl (.rows _) (fun y _ => one_cGChar y) (by simp) c_1 (by decide) fun p_2 H' hH => ?_)
    refine WpOps.consG rfl rfl (WpO.putT rfl rfl hH (i := 3) rfl rfl rfl rfl rfl rfl rfl fun H' hH => ?_)
    refine WpOps.nil ?_
    obtain ⟨_, hle_1, hH⟩ := hH.lose_ (i := 0) rfl
    obtain rfl := Sh.some_inj h
    exact ⟨_, hle_1, (l_1 ++ ([x_1] : List GChar)), p_2, rfl, hH⟩
  ·
    rintro l_2 p_3 H' rfl hH
    have h := hk_1
    refine WpC.seqR ?_
    refine WpOps.consE rfl rfl (Exact.load rfl rfl (hH.cell (i := 2) rfl) rfl rfl) ?_
    refine WpOps.pn 1 rfl trivial ?_
    refine WpOps.nil ?_
    refine WpC.freeze (t := 2) (i := 1) hH rfl rfl (fun H' hH => ?_)
    refine WpC.lose (i := 0) hH rfl (fun H' hH => ?_)
    refine WpC.lose (i := 0) hH rfl (fun H' hH => ?_)
    obtain rfl := Sh.some_inj h
    refine WpC.ret ?_
    exact VEnds.ret1 rfl rfl ⟨rfl, hH⟩

theorem w_splice_Text {H0 : Heap} {l_1 : List GChar} {r : List UInt8} (h : splice_Text l_1 = some r) : TCall Tryd.prog 55 [(AV.rows 2 (List.map cGChar l_1))] H0 (fun v H' => v = (sA r) ∧ H' = H0) noE := by
  refine id (TCall.body Tryd.func55 rfl rfl ?_)
  have hH : Holds H0 [] H0 := rfl
  refine WpC.seqR ?_
  refine WpOps.pn 1 rfl trivial ?_
  refine WpOps.nil ?_
  refine WpC.seqR ?_
  refine WpOps.pn 2 rfl trivial ?_
  refine WpOps.at 7 (len_map _ _) ?_
  obtain ⟨c_1, h⟩ := Sh.chk_some h
  refine WpOps.consG rfl rfl (WpO.makeT cU (z := (0 : UInt8)) (n := (l_1.length : Int)) c_1 rfl rfl rfl hH rfl rfl rfl rfl (by decide) fun g_1 cp_1 H' hH => ?_)
  refine WpOps.pn 1 rfl trivial ?_
  refine WpOps.nil ?_
  refine WpC.seq ?_
  refine WpC.seqR ?_
  refine WpOps.pn 2 rfl trivial ?_
  refine WpOps.at 10 (len_map _ _) ?_
  refine WpOps.pn 1 rfl trivial ?_
  refine WpOps.nil ?_
  refine WpC.blockK (fun x : (List UInt8) × ((Option (Nat × Nat))) => [(3, (.own (List.map cU x.1).length x.2))]) (fun x H' => splice_Text_j1 x.1 = some r ∧ Holds H0 [.own 5 1 x.2 (List.map cU x.1)] H') ?_ ?_
  ·
    obtain ⟨o_1, ho_1, hk_1⟩ := Sh.bind_some h
    refine WpC.loopS (splice_Text_b2 l_1) (fun (s : Int × List UInt8) (a : (Option (Nat × Nat))) => [(3, (.own (List.map cU s.2).length a)), (9, (AV.rows 2 (List.map cGChar l_1))), (10, (iA (l_1.length : Int))), (11, (iA s.1))]) (fun (s : Int × List UInt8) (a : (Option (Nat × Nat))) H' => Holds H0 [.own 5 1 a (List.map cU s.2)] H') o_1 ((0 : Int), (List.replicate ((l_1.length : Int)).toNat (0 : UInt8))) (some (g_1, cp_1)) ho_1 ⟨rfl, rfl, rfl, rfl, trivial⟩ hH ?_
    rintro ⟨t11_1, b_1⟩ p_1 st_1 env H' h hd_1 hH
    refine WpC.seqR ?_
    refine WpOps.pn 1 rfl trivial ?_
    refine WpOps.nil ?_
    refine WpC.seq ?_
    refine WpC.condB rfl (fun hb => ?_) (fun hb => ?_)
    ·
      replace h := Sh.ite_pos hb h
      refine WpC.skipD ?_
      refine ⟨_, Heap.le_refl _, ?_⟩
      refine WpC.seq ?_
      refine WpC.block ?_
      refine WpC.seqR ?_
      obtain ⟨y_1, hy_1, h⟩ := Sh.bind_some h
      refine WpOps.pn 1 rfl trivial ?_
      refine WpOps.consE (v := (.rop (cGChar y_1))) rfl rfl (Exact.ixr cGChar hy_1 rfl rfl rfl rfl (by kernel_rfl) (by decide)) ?_
      refine WpOps.consE (v := (AV.agg (cGChar y_1))) rfl rfl (Exact.load_rop rfl rfl rfl) ?_
      refine WpOps.consG rfl rfl (WpO.allocT (z := cGChar (GChar.mk (0 : UInt8) (0 : Int))) rfl rfl hH fun g_2 H' hH => ?_)
      refine WpOps.pn 1 rfl trivial ?_
      refine WpOps.consG rfl rfl (WpO.putT (cs' := cGChar y_1) (v := (AV.agg (cGChar y_1))) rfl rfl hH (i := 0) rfl rfl rfl rfl rfl rfl rfl fun H' hH => ?_)
      refine WpOps.nil ?_
      refine WpC.regionD ?_
      refine WpOps.pn 3 rfl trivial ?_
      refine WpOps.consE (v := (u8A y_1.b)) rfl rfl (Exact.load rfl rfl (hH.cell (i := 0) rfl) rfl rfl) ?_
      obtain ⟨y_2, hy_2, h⟩ := Sh.bind_some h
      have hq_1 := h; have hq_2 := hH
      obtain ⟨g_3, cp_2, rfl⟩ := hq_2.grown (i := 1) rfl (ne_of_ix hy_2)
      have h := hq_1; have hH := hq_2
      refine WpOps.consE rfl rfl (Exact.ixo (size := 1) cU hy_2 rfl rfl rfl rfl (by kernel_rfl) (by decide)) ?_
      refine WpOps.consG rfl rfl (WpO.setT (off := 0) (i := 1) cU (y' := y_1.b) (v := (u8A y_1.b)) hy_2 hH rfl rfl rfl rfl rfl rfl rfl rfl rfl fun H' hH => ?_)
      refine WpOps.at 3 (own_set cU b_1 (t11_1).toNat y_1.b _) ?_
      refine WpOps.at 16 (own_set cU b_1 (t11_1).toNat y_1.b _) ?_
      refine WpOps.nil ?_
      refine ⟨_, Heap.le_refl _, ?_⟩
      refine WpC.regionD ?_
      obtain ⟨c_2, h⟩ := Sh.chk_some h
      refine WpOps.pn 2 rfl c_2 ?_
      refine WpOps.nil ?_
      obtain ⟨_, hle_1, hH⟩ := hH.lose_ (i := 0) rfl
      obtain rfl := Sh.some_inj h
      exact ⟨_, hle_1, ((t11_1 + (1 : Int)), (b_1.set (t11_1).toNat y_1.b)), (some (g_3, cp_2)), rfl, ⟨rfl, rfl, rfl, rfl, trivial⟩, hH⟩
    ·
      replace h := Sh.ite_neg hb h
      obtain rfl := Sh.some_inj h
      have e := hd_1 _ rfl
      subst e
      refine WpC.exit ?_
      exact ⟨(b_1, p_1), ⟨rfl, trivial⟩, hk_1, hH⟩
  ·
    rintro ⟨b_2, p_2⟩ env H' ⟨h, hH⟩
    try dsimp only at h
    refine ⟨_, Heap.le_refl _, ?_⟩
    refine WpC.seqR ?_
    refine WpOps.pn 1 rfl trivial ?_
    refine WpOps.consE (v := (sA b_2)) rfl rfl (Exact.string_of_bytes (bs := b_2) rfl rfl rfl rfl rfl (hH.src (i := 0) rfl)) ?_
    refine WpOps.pn 1 rfl trivial ?_
    refine WpOps.nil ?_
    refine WpC.lose (i := 0) hH rfl (fun H' hH => ?_)
    obtain rfl := Sh.some_inj h
    refine WpC.ret ?_
    exact VEnds.ret1 rfl rfl ⟨rfl, hH⟩

theorem w_pptok_reader_byte {H : Heap} {g_1 : Nat} {r_1 : GPptok_reader} {far_1 : Int} (hg : H g_1 = some (.cells 81 (cGPptok_reader r_1))) {r : UInt8} (h : pptok_reader_byte r_1 far_1 = some r) : TCall Tryd.prog 73 [(.lit (.pointer (some ⟨g_1, 0, none⟩))), (iA far_1)] H (fun v H' => v = (u8A r) ∧ H' = H) noE := by
  obtain ⟨H0, hH⟩ : ∃ H0, Holds H0 [.cell g_1 81 (cGPptok_reader r_1)] H := ⟨_, Holds.of_cell hg⟩
  refine TCall.held hH (id (TCall.body Tryd.func73 rfl rfl ?_))
  refine WpC.seqR ?_
  refine WpOps.pn 1 rfl trivial ?_
  refine WpOps.nil ?_
  refine WpC.seq ?_
  refine WpC.seqD [.I, .I, .I, .S, .I, .I, .I, .I, .I, .S] [0, 1, 2, 3, 4, 5, 6, 7, 8, 9, 10, 11] (by kernel_rfl) (by kernel_rfl) ?_
  refine WpPi.pn 3 rfl trivial ?_
  refine WpPi.consS (v := (iA r_1.at_)) rfl rfl rfl rfl (Exact.load rfl rfl (hH.cell (i := 0) rfl) rfl rfl) ?_
  obtain ⟨c_1, h⟩ := Sh.chk_some h
  refine WpPi.pn 5 rfl c_1 ?_
  refine WpPi.consS (v := (sA r_1.s)) rfl rfl rfl rfl (Exact.load rfl rfl (hH.cell (i := 0) rfl) rfl rfl) ?_
  refine WpPi.pn 2 rfl trivial ?_
  refine WpPi.nil ?_
  refine WpC.condB rfl (fun hb => ?_) (fun hb => ?_)
  ·
    replace h := Sh.ite_pos hb h
    refine WpC.seqR ?_
    refine WpOps.pn 1 rfl trivial ?_
    refine WpOps.nil ?_
    obtain rfl := Sh.some_inj h
    refine WpC.ret ?_
    exact VEnds.ret1 rfl rfl ⟨rfl, hH⟩
  ·
    replace h := Sh.ite_neg hb h
    refine WpC.skipD ?_
    refine ⟨_, Heap.le_refl _, ?_⟩
    refine WpC.seqD [.I, .I, .I, .S, .I, .I, .I, .S] [0, 1, 2, 3, 4, 5, 6, 7, 8, 9, 10, 11] (by kernel_rfl) (by kernel_rfl) ?_
    refine WpPi.pn 3 rfl trivial ?_
    refine WpPi.consS (v := (sA r_1.s)) rfl rfl rfl rfl (Exact.load rfl rfl (hH.cell (i := 0) rfl) rfl rfl) ?_
    refine WpPi.pn 3 rfl trivial ?_
    refine WpPi.consS (v := (iA r_1.at_)) rfl rfl rfl rfl (Exact.load rfl rfl (hH.cell (i := 0) rfl) rfl rfl) ?_
    obtain ⟨c_2, h⟩ := Sh.chk_some h
    obtain ⟨ch_1, hch_1, h⟩ := Sh.bind_some h
    refine WpPi.pn 2 rfl c_2 ?_
    refine WpPi.consI (v := (u8A ch_1)) rfl rfl rfl rfl (fun _ => Exact.ixs hch_1 rfl rfl rfl rfl) ?_
    refine WpPi.pn 1 rfl trivial ?_
    refine WpPi.nil ?_
    obtain rfl := Sh.some_inj h
    refine WpC.ret ?_
    exact VEnds.ret1 rfl rfl ⟨rfl, hH⟩

theorem w_pptok_reader_has {H : Heap} {g_1 : Nat} {r_1 : GPptok_reader} {s_1 : List UInt8} (hg : H g_1 = some (.cells 81 (cGPptok_reader r_1))) {r : Bool} (h : pptok_reader_has r_1 s_1 = some r) : TCall Tryd.prog 74 [(.lit (.pointer (some ⟨g_1, 0, none⟩))), (sA s_1)] H (fun v H' => v = (bA r) ∧ H' = H) noE := by
  obtain ⟨H0, hH⟩ : ∃ H0, Holds H0 [.cell g_1 81 (cGPptok_reader r_1)] H := ⟨_, Holds.of_cell hg⟩
  refine TCall.held hH (id (TCall.body Tryd.func74 rfl rfl ?_))
  refine WpC.seqR ?_
  refine WpOps.pn 1 rfl trivial ?_
  refine WpOps.nil ?_
  refine WpC.seqD [.I, .I, .I, .S, .I, .I, .I, .S] [0, 1, 2, 3, 4, 5, 6, 7, 8, 9, 10, 11] (by kernel_rfl) (by kernel_rfl) ?_
  refine WpPi.pn 3 rfl trivial ?_
  refine WpPi.consS (v := (sA r_1.s)) rfl rfl rfl rfl (Exact.load rfl rfl (hH.cell (i := 0) rfl) rfl rfl) ?_
  refine WpPi.pn 3 rfl trivial ?_
  refine WpPi.consS (v := (iA r_1.at_)) rfl rfl rfl rfl (Exact.load rfl rfl (hH.cell (i := 0) rfl) rfl rfl) ?_
  obtain ⟨c_1, h⟩ := Sh.chk_some h
  refine WpPi.pn 1 rfl (show 0 ≤ r_1.at_ ∧ True ∧ (r_1.at_).toNat ≤ r_1.s.length from ⟨(by omega), trivial, (by omega)⟩) ?_
  refine WpPi.pn 1 rfl trivial ?_
  refine WpPi.consI (v := (bA (Lib.hasPrefix (r_1.s.drop (r_1.at_).toNat) s_1))) rfl rfl rfl rfl (fun _ => Exact.call rfl rfl rfl (l_HasPrefix (r_1.s.drop (r_1.at_).toNat) s_1)) ?_
  refine WpPi.pn 1 rfl trivial ?_
  refine WpPi.nil ?_
  obtain rfl := Sh.some_inj h
  refine WpC.ret ?_
  exact VEnds.ret1 rfl rfl ⟨rfl, hH⟩

theorem w_pptok_reader_blank {H0 H : Heap} {g_1 : Nat} (hG : Glob H0) {r_1 : GPptok_reader} (hH : Holds H0 [.cell g_1 81 (cGPptok_reader r_1)] H) {r : (Bool) × GPptok_reader} (h : pptok_reader_blank r_1 = some r) : TCall Tryd.prog 56 [(.lit (.pointer (some ⟨g_1, 0, none⟩)))] H (fun v H' => v = (bA r.1) ∧ Holds H0 [.cell g_1 81 (cGPptok_reader r.2)] H') noE := by
  refine TCall.body Tryd.func56 rfl rfl ?_
  refine WpC.seqR ?_
  refine WpOps.pn 1 rfl trivial ?_
  refine WpOps.nil ?_
  refine WpC.seqK (fun x : (GPptok_reader) × (Unit) => [(0, (.lit (.pointer (some ⟨g_1, 0, none⟩))))]) (fun x H' => pptok_reader_blank_j1 x.1 = some r ∧ Holds H0 [.cell g_1 81 (cGPptok_reader x.1)] H') ?_ ?_
  ·
    refine WpC.seqR ?_
    obtain ⟨r_2, hr_1, h⟩ := Sh.bind_some h
    refine WpOps.pn 1 rfl trivial ?_
    refine WpOps.consE (v := (u8A r_2)) rfl rfl (Exact.call rfl rfl rfl (w_pptok_reader_byte (hH.cell (i := 0) rfl) hr_1)) ?_
    refine WpOps.nil ?_
    refine WpC.block ?_
    refine WpC.seqK (fun x : (Bool) × (Unit) => [(0, (.lit (.pointer (some ⟨g_1, 0, none⟩)))), (7, (bA x.1))]) (fun x H' => (pptok_reader_blank_j2 r_1) x.1 = some r ∧ Holds H0 [.cell g_1 81 (cGPptok_reader r_1)] H') ?_ ?_
    ·
      refine WpC.seqR ?_
      refine WpOps.pn 2 rfl trivial ?_
      refine WpOps.nil ?_
      refine WpC.condB rfl (fun hb => ?_) (fun hb => ?_)
      ·
        replace h := Sh.ite_pos hb h
        refine WpC.skipD ?_
        exact ⟨_, (Heap.le_refl _), ((decide ((r_2.toNat : Int) = (32 : Int))), ()), ⟨rfl, rfl, trivial⟩, h, hH⟩
      ·
        replace h := Sh.ite_neg hb h
        refine WpC.seqR ?_
        refine WpOps.pn 2 rfl trivial ?_
        refine WpOps.nil ?_
        refine WpC.condB rfl (fun hb => ?_) (fun hb => ?_)
        ·
          replace h := Sh.ite_pos hb h
          refine WpC.skipD ?_
          exact ⟨_, (Heap.le_refl _), ((decide ((r_2.toNat : Int) = (9 : Int))), ()), ⟨rfl, rfl, trivial⟩, h, hH⟩
        ·
          replace h := Sh.ite_neg hb h
          refine WpC.seqR ?_
          refine WpOps.pn 2 rfl trivial ?_
          refine WpOps.nil ?_
          refine WpC.condB rfl (fun hb => ?_) (fun hb => ?_)
          ·
            replace h := Sh.ite_pos hb h
            refine WpC.skipD ?_
            exact ⟨_, (Heap.le_refl _), ((decide ((r_2.toNat : Int) = (11 : Int))), ()), ⟨rfl, rfl, trivial⟩, h, hH⟩
          ·
            replace h := Sh.ite_neg hb h
            refine WpC.seqR ?_
            refine WpOps.pn 2 rfl trivial ?_
            refine WpOps.nil ?_
            refine WpC.condB rfl (fun hb => ?_) (fun hb => ?_)
            ·
              replace h := Sh.ite_pos hb h
              refine WpC.skipD ?_
              exact ⟨_, (Heap.le_refl _), ((decide ((r_2.toNat : Int) = (12 : Int))), ()), ⟨rfl, rfl, trivial⟩, h, hH⟩
            ·
              replace h := Sh.ite_neg hb h
              refine WpC.regionD ?_
              refine WpOps.pn 2 rfl trivial ?_
              refine WpOps.nil ?_
              exact ⟨_, (Heap.le_refl _), ((decide ((r_2.toNat : Int) = (13 : Int))), ()), ⟨rfl, rfl, trivial⟩, h, hH⟩
    ·
      rintro ⟨t7_1, _⟩ env H' ⟨h, hH⟩
      try dsimp only at h
      refine WpC.condB rfl (fun hb => ?_) (fun hb => ?_)
      ·
        replace h := Sh.ite_pos hb h
        refine WpC.seqR ?_
        refine WpOps.pn 3 rfl trivial ?_
        refine WpOps.consE (v := (iA r_1.at_)) rfl rfl (Exact.load rfl rfl (hH.cell (i := 0) rfl) rfl rfl) ?_
        obtain ⟨c_1, h⟩ := Sh.chk_some h
        refine WpOps.pn 3 rfl c_1 ?_
        refine WpOps.consG rfl rfl (WpO.putT (cs' := cGPptok_reader (GPptok_reader.mk r_1.s (r_1.at_ + (1 : Int)))) (v := (iA (r_1.at_ + (1 : Int)))) rfl rfl hH (i := 0) rfl rfl rfl rfl rfl rfl rfl fun H' hH => ?_)
        refine WpOps.nil ?_
        refine WpC.seqR ?_
        refine WpOps.pn 1 rfl trivial ?_
        refine WpOps.nil ?_
        obtain rfl := Sh.some_inj h
        refine WpC.ret ?_
        exact VEnds.ret1 rfl rfl ⟨rfl, hH⟩
      ·
        replace h := Sh.ite_neg hb h
        refine WpC.skipD ?_
        exact ⟨_, (Heap.le_refl _), (r_1, ()), ⟨rfl, trivial⟩, h, hH⟩
  ·
    rintro ⟨r_3, _⟩ env H' ⟨h, hH⟩
    try dsimp only at h
    refine WpC.seq ?_
    refine WpC.seqR ?_
    obtain ⟨r_4, hr_2, h⟩ := Sh.bind_some h
    refine WpOps.pn 1 rfl trivial ?_
    refine WpOps.consE (v := (bA r_4)) rfl rfl (Exact.call rfl rfl rfl (w_pptok_reader_has (hH.cell (i := 0) rfl) hr_2)) ?_
    refine WpOps.nil ?_
    refine WpC.condB rfl (fun hb => ?_) (fun hb => ?_)
    ·
      replace h := Sh.ite_pos hb h
      refine WpC.seqD [.I, .I, .I, .S, .I, .I, .I, .S] [0, 1, 2, 3, 4, 5, 6, 7, 8, 9, 10] (by kernel_rfl) (by kernel_rfl) ?_
      refine WpPi.pn 3 rfl trivial ?_
      refine WpPi.consS (v := (sA r_3.s)) rfl rfl rfl rfl (Exact.load rfl rfl (hH.cell (i := 0) rfl) rfl rfl) ?_
      refine WpPi.pn 3 rfl trivial ?_
      refine WpPi.consS (v := (iA r_3.at_)) rfl rfl rfl rfl (Exact.load rfl rfl (hH.cell (i := 0) rfl) rfl rfl) ?_
      obtain ⟨c_2, h⟩ := Sh.chk_some h
      refine WpPi.pn 1 rfl (show 0 ≤ r_3.at_ ∧ True ∧ (r_3.at_).toNat ≤ r_3.s.length from ⟨(by omega), trivial, (by omega)⟩) ?_
      refine WpPi.consI (v := (iA (Lib.indexByte (r_3.s.drop (r_3.at_).toNat) (10 : UInt8)))) rfl rfl rfl rfl (fun _ => Exact.call rfl rfl rfl (l_IndexByte (r_3.s.drop (r_3.at_).toNat) (10 : UInt8))) ?_
      refine WpPi.pn 1 rfl trivial ?_
      refine WpPi.nil ?_
      refine WpC.seqK (fun x : (Int) × (Unit) => [(0, (.lit (.pointer (some ⟨g_1, 0, none⟩)))), (3, (iA x.1))]) (fun x H' => (pptok_reader_blank_j3 r_3) x.1 = some r ∧ Holds H0 [.cell g_1 81 (cGPptok_reader r_3)] H') ?_ ?_
      ·
        refine WpC.seqR ?_
        refine WpOps.pn 2 rfl trivial ?_
        refine WpOps.nil ?_
        refine WpC.condB rfl (fun hb => ?_) (fun hb => ?_)
        ·
          replace h := Sh.ite_pos hb h
          refine WpC.drawD [.I, .I, .I, .S, .I, .I, .I, .I, .S] [0, 1, 2, 3, 4, 5, 6, 7, 8, 9, 10] (by kernel_rfl) (by kernel_rfl) ?_
          refine WpPi.pn 3 rfl trivial ?_
          refine WpPi.consS (v := (sA r_3.s)) rfl rfl rfl rfl (Exact.load rfl rfl (hH.cell (i := 0) rfl) rfl rfl) ?_
          refine WpPi.pn 4 rfl trivial ?_
          refine WpPi.consS (v := (iA r_3.at_)) rfl rfl rfl rfl (Exact.load rfl rfl (hH.cell (i := 0) rfl) rfl rfl) ?_
          obtain ⟨c_3, h⟩ := Sh.chk_some h
          refine WpPi.pn 2 rfl c_3 ?_
          refine WpPi.nil ?_
          exact ⟨_, (Heap.le_refl _), (((r_3.s.length : Int) - r_3.at_), ()), ⟨rfl, rfl, trivial⟩, h, hH⟩
        ·
          replace h := Sh.ite_neg hb h
          refine WpC.skipD ?_
          exact ⟨_, (Heap.le_refl _), ((Lib.indexByte (r_3.s.drop (r_3.at_).toNat) (10 : UInt8)), ()), ⟨rfl, rfl, trivial⟩, h, hH⟩
      ·
        rintro ⟨end_1, _⟩ env H' ⟨h, hH⟩
        try dsimp only at h
        refine WpC.seqR ?_
        refine WpOps.pn 3 rfl trivial ?_
        refine WpOps.consE (v := (iA r_3.at_)) rfl rfl (Exact.load rfl rfl (hH.cell (i := 0) rfl) rfl rfl) ?_
        obtain ⟨c_4, h⟩ := Sh.chk_some h
        refine WpOps.pn 4 rfl c_4 ?_
        refine WpOps.consG rfl rfl (WpO.putT (cs' := cGPptok_reader (GPptok_reader.mk r_3.s (r_3.at_ + end_1))) (v := (iA (r_3.at_ + end_1))) rfl rfl hH (i := 0) rfl rfl rfl rfl rfl rfl rfl fun H' hH => ?_)
        refine WpOps.nil ?_
        refine WpC.seqR ?_
        refine WpOps.pn 1 rfl trivial ?_
        refine WpOps.nil ?_
        obtain rfl := Sh.some_inj h
        refine WpC.ret ?_
        exact VEnds.ret1 rfl rfl ⟨rfl, hH⟩
    ·
      replace h := Sh.ite_neg hb h
      refine WpC.skipD ?_
      refine ⟨_, Heap.le_refl _, ?_⟩
      refine WpC.seq ?_
      refine WpC.seqR ?_
      obtain ⟨r_5, hr_3, h⟩ := Sh.bind_some h
      refine WpOps.pn 1 rfl trivial ?_
      refine WpOps.consE (v := (bA r_5)) rfl rfl (Exact.call rfl rfl rfl (w_pptok_reader_has (hH.cell (i := 0) rfl) hr_3)) ?_
      refine WpOps.pn 1 rfl trivial ?_
      refine WpOps.nil ?_
      refine WpC.condB rfl (fun hb => ?_) (fun hb => ?_)
      ·
        replace h := Sh.ite_pos hb h
        refine WpC.seqR ?_
        refine WpOps.pn 1 rfl trivial ?_
        refine WpOps.nil ?_
        obtain rfl := Sh.some_inj h
        refine WpC.ret ?_
        exact VEnds.ret1 rfl rfl ⟨rfl, hH⟩
      ·
        replace h := Sh.ite_neg hb h
        refine WpC.skipD ?_
        refine ⟨_, Heap.le_refl _, ?_⟩
        refine WpC.seqD [.I, .I, .I, .S, .I, .I, .I, .S, .I, .I, .S] [0, 1, 2, 3, 4, 5, 6, 7, 8, 9, 10, 11] (by kernel_rfl) (by kernel_rfl) ?_
        refine WpPi.pn 3 rfl trivial ?_
        refine WpPi.consS (v := (sA r_3.s)) rfl rfl rfl rfl (Exact.load rfl rfl (hH.cell (i := 0) rfl) rfl rfl) ?_
        refine WpPi.pn 3 rfl trivial ?_
        refine WpPi.consS (v := (iA r_3.at_)) rfl rfl rfl rfl (Exact.load rfl rfl (hH.cell (i := 0) rfl) rfl rfl) ?_
        obtain ⟨c_5, h⟩ := Sh.chk_some h
        obtain ⟨c_6, h⟩ := Sh.chk_some h
        refine WpPi.pn 1 rfl c_5 ?_
        refine WpPi.pn 1 rfl (show 0 ≤ (r_3.at_ + (2 : Int)) ∧ True ∧ ((r_3.at_ + (2 : Int))).toNat ≤ r_3.s.length from ⟨(by omega), trivial, (by omega)⟩) ?_
        obtain ⟨c_7, h⟩ := Sh.chk_some h
        refine WpPi.consS (v := (iA (Lib.index (r_3.s.drop ((r_3.at_ + (2 : Int))).toNat) ([42, 47] : List UInt8)))) rfl rfl rfl rfl (Exact.call rfl rfl rfl (l_Index (r_3.s.drop ((r_3.at_ + (2 : Int))).toNat) ([42, 47] : List UInt8) (hG.up hH).i c_7)) ?_
        refine WpPi.pn 1 rfl trivial ?_
        refine WpPi.nil ?_
        refine WpC.seq ?_
        refine WpC.seqR ?_
        refine WpOps.pn 2 rfl trivial ?_
        refine WpOps.nil ?_
        refine WpC.condB rfl (fun hb => ?_) (fun hb => ?_)
        ·
          replace h := Sh.ite_pos hb h
          refine WpC.seqR ?_
          refine WpOps.pn 1 rfl trivial ?_
          refine WpOps.nil ?_
          obtain rfl := Sh.some_inj h
          refine WpC.ret ?_
          exact VEnds.ret1 rfl rfl ⟨rfl, hH⟩
        ·
          replace h := Sh.ite_neg hb h
          refine WpC.skipD ?_
          refine ⟨_, Heap.le_refl _, ?_⟩
          refine WpC.seqR ?_
          refine WpOps.pn 3 rfl trivial ?_
          refine WpOps.consE (v := (iA r_3.at_)) rfl rfl (Exact.load rfl rfl (hH.cell (i := 0) rfl) rfl rfl) ?_
          obtain ⟨c_8, h⟩ := Sh.chk_some h
          obtain ⟨c_9, h⟩ := Sh.chk_some h
          refine WpOps.pn 5 rfl ⟨c_9, c_8⟩ ?_
          refine WpOps.consG rfl rfl (WpO.putT (cs' := cGPptok_reader (GPptok_reader.mk r_3.s (r_3.at_ + ((Lib.index (r_3.s.drop ((r_3.at_ + (2 : Int))).toNat) ([42, 47] : List UInt8)) + (4 : Int))))) (v := (iA (r_3.at_ + ((Lib.index (r_3.s.drop ((r_3.at_ + (2 : Int))).toNat) ([42, 47] : List UInt8)) + (4 : Int))))) rfl rfl hH (i := 0) rfl rfl rfl rfl rfl rfl rfl fun H' hH => ?_)
          refine WpOps.nil ?_
          refine WpC.seqR ?_
          refine WpOps.pn 1 rfl trivial ?_
          refine WpOps.nil ?_
          obtain rfl := Sh.some_inj h
          refine WpC.ret ?_
          exact VEnds.ret1 rfl rfl ⟨rfl, hH⟩

theorem w_pptok_letter {H0 : Heap} {c_1 : UInt8} {r : Bool} (h : pptok_letter c_1 = some r) : TCall Tryd.prog 97 [(u8A c_1)] H0 (fun v H' => v = (bA r) ∧ H' = H0) noE := by
  refine id (TCall.body Tryd.func97 rfl rfl ?_)
  have hH : Holds H0 [] H0 := rfl
  refine WpC.seqR ?_
  refine WpOps.pn 1 rfl trivial ?_
  refine WpOps.nil ?_
  refine WpC.seqR ?_
  refine WpOps.pn 2 rfl trivial ?_
  obtain ⟨b_1, g_1, h⟩ := Sh.bind_some h
  refine WpOps.cutB 8 12 (bA b_1) rfl ?_ ?_
  ·
    refine WpOps.pn 1 rfl trivial ?_
    refine WpOps.split 5 rfl (fun hb => ?_) (fun hb => ?_)
    ·
      replace g_1 := Sh.ite_pos hb g_1
      refine WpOps.pn 7 rfl trivial ?_
      refine WpOps.nil ?_
      obtain rfl := Sh.some_inj g_1
      exact ⟨rfl, rfl⟩
    ·
      replace g_1 := Sh.ite_neg hb g_1
      refine WpOps.pn 2 rfl trivial ?_
      obtain ⟨b_2, g_2, g_1⟩ := Sh.bind_some g_1
      refine WpOps.cutB 4 11 (bA b_2) rfl ?_ ?_
      ·
        refine WpOps.pn 1 rfl trivial ?_
        refine WpOps.split 8 rfl (fun hb => ?_) (fun hb => ?_)
        ·
          replace g_2 := Sh.ite_pos hb g_2
          refine WpOps.pn 3 rfl trivial ?_
          refine WpOps.nil ?_
          obtain rfl := Sh.some_inj g_2
          exact ⟨rfl, rfl⟩
        ·
          replace g_2 := Sh.ite_neg hb g_2
          refine WpOps.pn 3 rfl trivial ?_
          refine WpOps.nil ?_
          obtain rfl := Sh.some_inj g_2
          exact ⟨rfl, rfl⟩
      intro env
      refine WpOps.pn 1 rfl trivial ?_
      refine WpOps.nil ?_
      obtain rfl := Sh.some_inj g_1
      exact ⟨rfl, rfl⟩
  intro env
  obtain ⟨b_3, g_3, h⟩ := Sh.bind_some h
  refine WpOps.cutB 8 20 (bA b_3) rfl ?_ ?_
  ·
    refine WpOps.pn 1 rfl trivial ?_
    refine WpOps.split 13 rfl (fun hb => ?_) (fun hb => ?_)
    ·
      replace g_3 := Sh.ite_pos hb g_3
      refine WpOps.pn 7 rfl trivial ?_
      refine WpOps.nil ?_
      obtain rfl := Sh.some_inj g_3
      exact ⟨rfl, rfl⟩
    ·
      replace g_3 := Sh.ite_neg hb g_3
      refine WpOps.pn 2 rfl trivial ?_
      obtain ⟨b_4, g_4, g_3⟩ := Sh.bind_some g_3
      refine WpOps.cutB 4 19 (bA b_4) rfl ?_ ?_
      ·
        refine WpOps.pn 1 rfl trivial ?_
        refine WpOps.split 16 rfl (fun hb => ?_) (fun hb => ?_)
        ·
          replace g_4 := Sh.ite_pos hb g_4
          refine WpOps.pn 3 rfl trivial ?_
          refine WpOps.nil ?_
          obtain rfl := Sh.some_inj g_4
          exact ⟨rfl, rfl⟩
        ·
          replace g_4 := Sh.ite_neg hb g_4
          refine WpOps.pn 3 rfl trivial ?_
          refine WpOps.nil ?_
          obtain rfl := Sh.some_inj g_4
          exact ⟨rfl, rfl⟩
      intro env
      refine WpOps.pn 1 rfl trivial ?_
      refine WpOps.nil ?_
      obtain rfl := Sh.some_inj g_3
      exact ⟨rfl, rfl⟩
  intro env
  refine WpOps.pn 1 rfl trivial ?_
  refine WpOps.nil ?_
  obtain rfl := Sh.some_inj h
  refine WpC.ret ?_
  exact VEnds.ret1 rfl rfl ⟨rfl, hH⟩

theorem w_pptok_digit {H0 : Heap} {c_1 : UInt8} {r : Bool} (h : pptok_digit c_1 = some r) : TCall Tryd.prog 98 [(u8A c_1)] H0 (fun v H' => v = (bA r) ∧ H' = H0) noE := by
  refine id (TCall.body Tryd.func98 rfl rfl ?_)
  have hH : Holds H0 [] H0 := rfl
  refine WpC.seqR ?_
  refine WpOps.pn 1 rfl trivial ?_
  refine WpOps.nil ?_
  refine WpC.seqR ?_
  refine WpOps.pn 2 rfl trivial ?_
  obtain ⟨b_1, g_1, h⟩ := Sh.bind_some h
  refine WpOps.cutB 4 8 (bA b_1) rfl ?_ ?_
  ·
    refine WpOps.pn 1 rfl trivial ?_
    refine WpOps.split 5 rfl (fun hb => ?_) (fun hb => ?_)
    ·
      replace g_1 := Sh.ite_pos hb g_1
      refine WpOps.pn 3 rfl trivial ?_
      refine WpOps.nil ?_
      obtain rfl := Sh.some_inj g_1
      exact ⟨rfl, rfl⟩
    ·
      replace g_1 := Sh.ite_neg hb g_1
      refine WpOps.pn 3 rfl trivial ?_
      refine WpOps.nil ?_
      obtain rfl := Sh.some_inj g_1
      exact ⟨rfl, rfl⟩
  intro env
  refine WpOps.pn 1 rfl trivial ?_
  refine WpOps.nil ?_
  obtain rfl := Sh.some_inj h
  refine WpC.ret ?_
  exact VEnds.ret1 rfl rfl ⟨rfl, hH⟩

theorem w_pptok_reader_word {H : Heap} {g_1 : Nat} {r_1 : GPptok_reader} (hg : H g_1 = some (.cells 81 (cGPptok_reader r_1))) {r : Int} (h : pptok_reader_word r_1 = some r) : TCall Tryd.prog 77 [(.lit (.pointer (some ⟨g_1, 0, none⟩)))] H (fun v H' => v = (iA r) ∧ H' = H) noE := by
  obtain ⟨H0, hH⟩ : ∃ H0, Holds H0 [.cell g_1 81 (cGPptok_reader r_1)] H := ⟨_, Holds.of_cell hg⟩
  refine TCall.held hH (id (TCall.body Tryd.func77 rfl rfl ?_))
  refine WpC.seqR ?_
  refine WpOps.pn 1 rfl trivial ?_
  refine WpOps.nil ?_
  refine WpC.seqR ?_
  refine WpOps.pn 1 rfl trivial ?_
  refine WpOps.nil ?_
  refine WpC.seqB (fun x : (Int) × (Unit) => [(3, (iA x.1))]) (fun x H' => pptok_reader_word_j1 x.1 = some r ∧ Holds H0 [.cell g_1 81 (cGPptok_reader r_1)] H') ?_ ?_
  ·
    obtain ⟨o_1, ho_1, hk_1⟩ := Sh.bind_some h
    refine WpC.loopS (pptok_reader_word_b2 r_1) (fun (s : Int) (a : Unit) => [(0, (.lit (.pointer (some ⟨g_1, 0, none⟩)))), (3, (iA s))]) (fun (s : Int) (a : Unit) H' => Holds H0 [.cell g_1 81 (cGPptok_reader r_1)] H') o_1 (0 : Int) () ho_1 ⟨rfl, rfl, trivial⟩ hH ?_
    rintro n_1 _ st_1 env H' h hd_1 hH
    refine WpC.seq ?_
    refine WpC.seqR ?_
    obtain ⟨r_2, hr_1, h⟩ := Sh.bind_some h
    refine WpOps.pn 2 rfl trivial ?_
    refine WpOps.consE (v := (u8A r_2)) rfl rfl (Exact.call rfl rfl rfl (w_pptok_reader_byte (hH.cell (i := 0) rfl) hr_1)) ?_
    obtain ⟨r_3, hr_2, h⟩ := Sh.bind_some h
    refine WpOps.consE (v := (bA r_3)) rfl rfl (Exact.call rfl rfl rfl (w_pptok_letter hr_2)) ?_
    obtain ⟨b_1, g_2, h⟩ := Sh.bind_some h
    refine WpOps.cutB 10 17 (bA b_1) rfl ?_ ?_
    ·
      refine WpOps.pn 1 rfl trivial ?_
      refine WpOps.split 8 rfl (fun hb => ?_) (fun hb => ?_)
      ·
        replace g_2 := Sh.ite_pos hb g_2
        refine WpOps.pn 9 rfl trivial ?_
        refine WpOps.nil ?_
        obtain rfl := Sh.some_inj g_2
        exact ⟨rfl, rfl⟩
      ·
        replace g_2 := Sh.ite_neg hb g_2
        refine WpOps.pn 2 rfl trivial ?_
        obtain ⟨b_2, g_3, g_2⟩ := Sh.bind_some g_2
        refine WpOps.cutB 6 16 (bA b_2) rfl ?_ ?_
        ·
          refine WpOps.pn 1 rfl trivial ?_
          refine WpOps.split 11 rfl (fun hb => ?_) (fun hb => ?_)
          ·
            replace g_3 := Sh.ite_pos hb g_3
            obtain ⟨r_4, hr_3, g_3⟩ := Sh.bind_some g_3
            refine WpOps.pn 2 rfl trivial ?_
            refine WpOps.consE (v := (u8A r_4)) rfl rfl (Exact.call rfl rfl rfl (w_pptok_reader_byte (hH.cell (i := 0) rfl) hr_3)) ?_
            obtain ⟨r_5, hr_4, g_3⟩ := Sh.bind_some g_3
            refine WpOps.consE (v := (bA r_5)) rfl rfl (Exact.call rfl rfl rfl (w_pptok_digit hr_4)) ?_
            refine WpOps.pn 1 rfl trivial ?_
            refine WpOps.nil ?_
            obtain rfl := Sh.some_inj g_3
            exact ⟨rfl, rfl⟩
          ·
            replace g_3 := Sh.ite_neg hb g_3
            refine WpOps.pn 5 rfl trivial ?_
            refine WpOps.nil ?_
            obtain rfl := Sh.some_inj g_3
            exact ⟨rfl, rfl⟩
        intro env
        refine WpOps.pn 1 rfl trivial ?_
        refine WpOps.nil ?_
        obtain rfl := Sh.some_inj g_2
        exact ⟨rfl, rfl⟩
    intro env
    refine WpOps.nil ?_
    refine WpC.condB rfl (fun hb => ?_) (fun hb => ?_)
    ·
      replace h := Sh.ite_pos hb h
      refine WpC.skipD ?_
      refine ⟨_, Heap.le_refl _, ?_⟩
      refine WpC.block ?_
      refine WpC.regionD ?_
      obtain ⟨c_1, h⟩ := Sh.chk_some h
      refine WpOps.pn 3 rfl c_1 ?_
      refine WpOps.nil ?_
      obtain rfl := Sh.some_inj h
      exact ⟨_, (Heap.le_refl _), (n_1 + (1 : Int)), (), rfl, ⟨rfl, rfl, trivial⟩, hH⟩
    ·
      replace h := Sh.ite_neg hb h
      obtain rfl := Sh.some_inj h
      have e := hd_1 _ rfl
      subst e
      refine WpC.exit ?_
      exact ⟨(n_1, ()), ⟨rfl, trivial⟩, hk_1, hH⟩
  ·
    rintro ⟨n_2, _⟩ env H' ⟨h, hH⟩
    try dsimp only at h
    refine WpC.seqR ?_
    refine WpOps.pn 2 rfl trivial ?_
    refine WpOps.nil ?_
    obtain rfl := Sh.some_inj h
    refine WpC.ret ?_
    exact VEnds.ret1 rfl rfl ⟨rfl, hH⟩

theorem w_pptok_reader_number {H : Heap} {g_1 : Nat} {r_1 : GPptok_reader} (hg : H g_1 = some (.cells 81 (cGPptok_reader r_1))) {r : Int} (h : pptok_reader_number r_1 = some r) : TCall Tryd.prog 78 [(.lit (.pointer (some ⟨g_1, 0, none⟩)))] H (fun v H' => v = (iA r) ∧ H' = H) noE := by
  obtain ⟨H0, hH⟩ : ∃ H0, Holds H0 [.cell g_1 81 (cGPptok_reader r_1)] H := ⟨_, Holds.of_cell hg⟩
  refine TCall.held hH (id (TCall.body Tryd.func78 rfl rfl ?_))
  refine WpC.seqR ?_
  refine WpOps.pn 1 rfl trivial ?_
  refine WpOps.nil ?_
  refine WpC.seq ?_
  refine WpC.seqR ?_
  obtain ⟨r_2, hr_1, h⟩ := Sh.bind_some h
  refine WpOps.pn 1 rfl trivial ?_
  refine WpOps.consE (v := (u8A r_2)) rfl rfl (Exact.call rfl rfl rfl (w_pptok_reader_byte (hH.cell (i := 0) rfl) hr_1)) ?_
  obtain ⟨r_3, hr_2, h⟩ := Sh.bind_some h
  refine WpOps.consE (v := (bA r_3)) rfl rfl (Exact.call rfl rfl rfl (w_pptok_digit hr_2)) ?_
  refine WpOps.pn 1 rfl trivial ?_
  obtain ⟨b_1, g_2, h⟩ := Sh.bind_some h
  refine WpOps.cutB 11 20 (bA b_1) rfl ?_ ?_
  ·
    refine WpOps.pn 1 rfl trivial ?_
    refine WpOps.split 10 rfl (fun hb => ?_) (fun hb => ?_)
    ·
      replace g_2 := Sh.ite_pos hb g_2
      obtain ⟨r_4, hr_3, g_2⟩ := Sh.bind_some g_2
      refine WpOps.pn 1 rfl trivial ?_
      refine WpOps.consE (v := (u8A r_4)) rfl rfl (Exact.call rfl rfl rfl (w_pptok_reader_byte (hH.cell (i := 0) rfl) hr_3)) ?_
      refine WpOps.pn 1 rfl trivial ?_
      obtain ⟨b_2, g_3, g_2⟩ := Sh.bind_some g_2
      refine WpOps.cutB 6 19 (bA b_2) rfl ?_ ?_
      ·
        refine WpOps.pn 1 rfl trivial ?_
        refine WpOps.split 14 rfl (fun hb => ?_) (fun hb => ?_)
        ·
          replace g_3 := Sh.ite_pos hb g_3
          refine WpOps.pn 5 rfl trivial ?_
          refine WpOps.nil ?_
          obtain rfl := Sh.some_inj g_3
          exact ⟨rfl, rfl⟩
        ·
          replace g_3 := Sh.ite_neg hb g_3
          obtain ⟨r_5, hr_4, g_3⟩ := Sh.bind_some g_3
          refine WpOps.pn 1 rfl trivial ?_
          refine WpOps.consE (v := (u8A r_5)) rfl rfl (Exact.call rfl rfl rfl (w_pptok_reader_byte (hH.cell (i := 0) rfl) hr_4)) ?_
          obtain ⟨r_6, hr_5, g_3⟩ := Sh.bind_some g_3
          refine WpOps.consE (v := (bA r_6)) rfl rfl (Exact.call rfl rfl rfl (w_pptok_digit hr_5)) ?_
          refine WpOps.pn 2 rfl trivial ?_
          refine WpOps.nil ?_
          obtain rfl := Sh.some_inj g_3
          exact ⟨rfl, rfl⟩
      intro env
      refine WpOps.pn 1 rfl trivial ?_
      refine WpOps.nil ?_
      obtain rfl := Sh.some_inj g_2
      exact ⟨rfl, rfl⟩
    ·
      replace g_2 := Sh.ite_neg hb g_2
      refine WpOps.pn 10 rfl trivial ?_
      refine WpOps.nil ?_
      obtain rfl := Sh.some_inj g_2
      exact ⟨rfl, rfl⟩
  intro env
  refine WpOps.nil ?_
  refine WpC.condB rfl (fun hb => ?_) (fun hb => ?_)
  ·
    replace h := Sh.ite_pos hb h
    refine WpC.seqR ?_
    refine WpOps.pn 1 rfl trivial ?_
    refine WpOps.nil ?_
    obtain rfl := Sh.some_inj h
    refine WpC.ret ?_
    exact VEnds.ret1 rfl rfl ⟨rfl, hH⟩
  ·
    replace h := Sh.ite_neg hb h
    refine WpC.skipD ?_
    refine ⟨_, Heap.le_refl _, ?_⟩
    refine WpC.seqR ?_
    refine WpOps.pn 1 rfl trivial ?_
    refine WpOps.nil ?_
    refine WpC.block ?_
    obtain ⟨o_1, ho_1, hk_1⟩ := Sh.bind_some h
    refine WpC.loopS (pptok_reader_number_b1 r_1) (fun (s : Int) (a : Unit) => [(0, (.lit (.pointer (some ⟨g_1, 0, none⟩)))), (3, (iA s))]) (fun (s : Int) (a : Unit) H' => Holds H0 [.cell g_1 81 (cGPptok_reader r_1)] H') o_1 (1 : Int) () ho_1 ⟨rfl, rfl, trivial⟩ hH ?_
    rintro n_1 _ st_1 env H' h hd_1 hH
    refine WpC.block ?_
    refine WpC.seqR ?_
    obtain ⟨r_7, hr_6, h⟩ := Sh.bind_some h
    refine WpOps.pn 2 rfl trivial ?_
    refine WpOps.consE (v := (u8A r_7)) rfl rfl (Exact.call rfl rfl rfl (w_pptok_reader_byte (hH.cell (i := 0) rfl) hr_6)) ?_
    obtain ⟨c_1, h⟩ := Sh.chk_some h
    obtain ⟨r_8, hr_7, h⟩ := Sh.bind_some h
    refine WpOps.pn 3 rfl c_1 ?_
    refine WpOps.consE (v := (u8A r_8)) rfl rfl (Exact.call rfl rfl rfl (w_pptok_reader_byte (hH.cell (i := 0) rfl) hr_7)) ?_
    refine WpOps.pn 2 rfl trivial ?_
    refine WpOps.nil ?_
    refine WpC.block ?_
    refine WpC.seqR ?_
    refine WpOps.pn 1 rfl trivial ?_
    refine WpOps.consE (v := (iA (Lib.indexByte ([101, 69, 112, 80] : List UInt8) r_7))) rfl rfl (Exact.call rfl rfl rfl (l_IndexByte ([101, 69, 112, 80] : List UInt8) r_7)) ?_
    refine WpOps.pn 1 rfl trivial ?_
    obtain ⟨b_3, g_4, h⟩ := Sh.bind_some h
    refine WpOps.cutB 8 40 (bA b_3) rfl ?_ ?_
    ·
      refine WpOps.pn 1 rfl trivial ?_
      refine WpOps.split 33 rfl (fun hb => ?_) (fun hb => ?_)
      ·
        replace g_4 := Sh.ite_pos hb g_4
        refine WpOps.pn 2 rfl trivial ?_
        obtain ⟨b_4, g_5, g_4⟩ := Sh.bind_some g_4
        refine WpOps.cutB 4 39 (bA b_4) rfl ?_ ?_
        ·
          refine WpOps.pn 1 rfl trivial ?_
          refine WpOps.split 36 rfl (fun hb => ?_) (fun hb => ?_)
          ·
            replace g_5 := Sh.ite_pos hb g_5
            refine WpOps.pn 3 rfl trivial ?_
            refine WpOps.nil ?_
            obtain rfl := Sh.some_inj g_5
            exact ⟨rfl, rfl⟩
          ·
            replace g_5 := Sh.ite_neg hb g_5
            refine WpOps.pn 3 rfl trivial ?_
            refine WpOps.nil ?_
            obtain rfl := Sh.some_inj g_5
            exact ⟨rfl, rfl⟩
        intro env
        refine WpOps.pn 1 rfl trivial ?_
        refine WpOps.nil ?_
        obtain rfl := Sh.some_inj g_4
        exact ⟨rfl, rfl⟩
      ·
        replace g_4 := Sh.ite_neg hb g_4
        refine WpOps.pn 7 rfl trivial ?_
        refine WpOps.nil ?_
        obtain rfl := Sh.some_inj g_4
        exact ⟨rfl, rfl⟩
    intro env
    refine WpOps.pn 1 rfl trivial ?_
    refine WpOps.nil ?_
    refine WpC.condB rfl (fun hb => ?_) (fun hb => ?_)
    ·
      replace h := Sh.ite_pos hb h
      refine WpC.regionD ?_
      obtain ⟨c_2, h⟩ := Sh.chk_some h
      refine WpOps.pn 3 rfl c_2 ?_
      refine WpOps.nil ?_
      obtain rfl := Sh.some_inj h
      exact ⟨_, (Heap.le_refl _), (n_1 + (2 : Int)), (), rfl, ⟨rfl, rfl, trivial⟩, hH⟩
    ·
      replace h := Sh.ite_neg hb h
      refine WpC.seqR ?_
      obtain ⟨r_9, hr_8, h⟩ := Sh.bind_some h
      refine WpOps.pn 1 rfl trivial ?_
      refine WpOps.consE (v := (bA r_9)) rfl rfl (Exact.call rfl rfl rfl (w_pptok_letter hr_8)) ?_
      obtain ⟨b_5, g_6, h⟩ := Sh.bind_some h
      refine WpOps.cutB 4 49 (bA b_5) rfl ?_ ?_
      ·
        refine WpOps.pn 1 rfl trivial ?_
        refine WpOps.split 46 rfl (fun hb => ?_) (fun hb => ?_)
        ·
          replace g_6 := Sh.ite_pos hb g_6
          refine WpOps.pn 3 rfl trivial ?_
          refine WpOps.nil ?_
          obtain rfl := Sh.some_inj g_6
          exact ⟨rfl, rfl⟩
        ·
          replace g_6 := Sh.ite_neg hb g_6
          obtain ⟨r_10, hr_9, g_6⟩ := Sh.bind_some g_6
          refine WpOps.pn 1 rfl trivial ?_
          refine WpOps.consE (v := (bA r_10)) rfl rfl (Exact.call rfl rfl rfl (w_pptok_digit hr_9)) ?_
          refine WpOps.pn 1 rfl trivial ?_
          refine WpOps.nil ?_
          obtain rfl := Sh.some_inj g_6
          exact ⟨rfl, rfl⟩
      intro env
      obtain ⟨b_6, g_7, h⟩ := Sh.bind_some h
      refine WpOps.cutB 4 53 (bA b_6) rfl ?_ ?_
      ·
        refine WpOps.pn 1 rfl trivial ?_
        refine WpOps.split 50 rfl (fun hb => ?_) (fun hb => ?_)
        ·
          replace g_7 := Sh.ite_pos hb g_7
          refine WpOps.pn 3 rfl trivial ?_
          refine WpOps.nil ?_
          obtain rfl := Sh.some_inj g_7
          exact ⟨rfl, rfl⟩
        ·
          replace g_7 := Sh.ite_neg hb g_7
          refine WpOps.pn 3 rfl trivial ?_
          refine WpOps.nil ?_
          obtain rfl := Sh.some_inj g_7
          exact ⟨rfl, rfl⟩
      intro env
      refine WpOps.pn 1 rfl trivial ?_
      refine WpOps.nil ?_
      refine WpC.condB rfl (fun hb => ?_) (fun hb => ?_)
      ·
        replace h := Sh.ite_pos hb h
        refine WpC.regionD ?_
        obtain ⟨c_3, h⟩ := Sh.chk_some h
        refine WpOps.pn 3 rfl c_3 ?_
        refine WpOps.nil ?_
        obtain rfl := Sh.some_inj h
        exact ⟨_, (Heap.le_refl _), (n_1 + (1 : Int)), (), rfl, ⟨rfl, rfl, trivial⟩, hH⟩
      ·
        replace h := Sh.ite_neg hb h
        refine WpC.seqR ?_
        refine WpOps.pn 2 rfl trivial ?_
        refine WpOps.nil ?_
        obtain rfl := Sh.some_inj h
        have e := hd_1 _ rfl
        subst e
        have h := hk_1
        obtain rfl := Sh.some_inj h
        refine WpC.ret ?_
        exact VEnds.ret1 rfl rfl ⟨rfl, hH⟩

theorem w_pptok_reader_quoted {H : Heap} {g_1 : Nat} {r_1 : GPptok_reader} {quote_1 : UInt8} (hg : H g_1 = some (.cells 81 (cGPptok_reader r_1))) {r : Int} (h : pptok_reader_quoted r_1 quote_1 = some r) : TCall Tryd.prog 79 [(.lit (.pointer (some ⟨g_1, 0, none⟩))), (u8A quote_1)] H (fun v H' => v = (iA r) ∧ H' = H) noE := by
  obtain ⟨H0, hH⟩ : ∃ H0, Holds H0 [.cell g_1 81 (cGPptok_reader r_1)] H := ⟨_, Holds.of_cell hg⟩
  refine TCall.held hH (id (TCall.body Tryd.func79 rfl rfl ?_))
  refine WpC.seqR ?_
  refine WpOps.pn 1 rfl trivial ?_
  refine WpOps.nil ?_
  refine WpC.seq ?_
  refine WpC.seqD [.I, .I, .I, .S, .I, .I, .I, .S, .I, .I, .I, .I, .S] [0, 1, 2, 3, 4, 5, 6, 7, 8, 9, 10, 11, 12, 13, 14, 15] (by kernel_rfl) (by kernel_rfl) ?_
  refine WpPi.pn 3 rfl trivial ?_
  refine WpPi.consS (v := (iA r_1.at_)) rfl rfl rfl rfl (Exact.load rfl rfl (hH.cell (i := 0) rfl) rfl rfl) ?_
  refine WpPi.pn 3 rfl trivial ?_
  refine WpPi.consS (v := (sA r_1.s)) rfl rfl rfl rfl (Exact.load rfl rfl (hH.cell (i := 0) rfl) rfl rfl) ?_
  refine WpPi.pn 2 rfl trivial ?_
  obtain ⟨b_1, g_2, h⟩ := Sh.bind_some h
  refine WpPi.cutB 6 21 (bA b_1) rfl ?_ ?_
  ·
    refine WpPi.pn 1 rfl trivial ?_
    refine WpPi.split 16 rfl (fun hb => ?_) (fun hb => ?_)
    ·
      replace g_2 := Sh.ite_pos hb g_2
      refine WpPi.pn 1 rfl trivial ?_
      refine WpPi.skip rfl rfl rfl ?_
      refine WpPi.pn 3 rfl trivial ?_
      refine WpPi.nil ?_
      obtain rfl := Sh.some_inj g_2
      exact ⟨rfl, rfl⟩
    ·
      replace g_2 := Sh.ite_neg hb g_2
      obtain ⟨r_2, hr_1, g_2⟩ := Sh.bind_some g_2
      refine WpPi.pn 1 rfl trivial ?_
      refine WpPi.consS (v := (u8A r_2)) rfl rfl rfl rfl (Exact.call rfl rfl rfl (w_pptok_reader_byte (hH.cell (i := 0) rfl) hr_1)) ?_
      refine WpPi.pn 3 rfl trivial ?_
      refine WpPi.nil ?_
      obtain rfl := Sh.some_inj g_2
      exact ⟨rfl, rfl⟩
  intro env
  refine WpPi.nil ?_
  refine WpC.condB rfl (fun hb => ?_) (fun hb => ?_)
  ·
    replace h := Sh.ite_pos hb h
    refine WpC.seqR ?_
    refine WpOps.pn 1 rfl trivial ?_
    refine WpOps.nil ?_
    obtain rfl := Sh.some_inj h
    refine WpC.ret ?_
    exact VEnds.ret1 rfl rfl ⟨rfl, hH⟩
  ·
    replace h := Sh.ite_neg hb h
    refine WpC.skipD ?_
    refine ⟨_, Heap.le_refl _, ?_⟩
    refine WpC.seq ?_
    refine WpC.seqR ?_
    refine WpOps.pn 1 rfl trivial ?_
    refine WpOps.nil ?_
    refine WpC.blockK (fun x : (Unit) × (Unit) => []) (fun x H' => pptok_reader_quoted_j1 x.1 = some r ∧ Holds H0 [.cell g_1 81 (cGPptok_reader r_1)] H') ?_ ?_
    ·
      obtain ⟨o_1, ho_1, hk_1⟩ := Sh.bind_some h
      refine WpC.loopS (pptok_reader_quoted_b2 r_1 quote_1) (fun (s : Int) (a : Unit) => [(0, (.lit (.pointer (some ⟨g_1, 0, none⟩)))), (1, (u8A quote_1)), (5, (iA s))]) (fun (s : Int) (a : Unit) H' => Holds H0 [.cell g_1 81 (cGPptok_reader r_1)] H') o_1 (1 : Int) () ho_1 ⟨rfl, rfl, rfl, trivial⟩ hH ?_
      rintro n_1 _ st_1 env H' h hd_1 hH
      refine WpC.seq ?_
      refine WpC.seqD [.I, .I, .I, .S, .I, .I, .I, .I, .I, .S] [0, 1, 2, 3, 4, 5, 6, 7, 8, 9, 10, 11] (by kernel_rfl) (by kernel_rfl) ?_
      refine WpPi.pn 3 rfl trivial ?_
      refine WpPi.consS (v := (iA r_1.at_)) rfl rfl rfl rfl (Exact.load rfl rfl (hH.cell (i := 0) rfl) rfl rfl) ?_
      obtain ⟨c_1, h⟩ := Sh.chk_some h
      refine WpPi.pn 5 rfl c_1 ?_
      refine WpPi.consS (v := (sA r_1.s)) rfl rfl rfl rfl (Exact.load rfl rfl (hH.cell (i := 0) rfl) rfl rfl) ?_
      refine WpPi.pn 2 rfl trivial ?_
      refine WpPi.nil ?_
      refine WpC.condB rfl (fun hb => ?_) (fun hb => ?_)
      ·
        replace h := Sh.ite_pos hb h
        refine WpC.skipD ?_
        refine ⟨_, Heap.le_refl _, ?_⟩
        refine WpC.seq ?_
        refine WpC.block ?_
        refine WpC.seqR ?_
        obtain ⟨r_3, hr_2, h⟩ := Sh.bind_some h
        refine WpOps.pn 2 rfl trivial ?_
        refine WpOps.consE (v := (u8A r_3)) rfl rfl (Exact.call rfl rfl rfl (w_pptok_reader_byte (hH.cell (i := 0) rfl) hr_2)) ?_
        refine WpOps.nil ?_
        refine WpC.block ?_
        refine WpC.seqR ?_
        refine WpOps.pn 3 rfl trivial ?_
        refine WpOps.nil ?_
        refine WpC.condB rfl (fun hb => ?_) (fun hb => ?_)
        ·
          replace h := Sh.ite_pos hb h
          refine WpC.seq ?_
          refine WpC.seqR ?_
          refine WpOps.pn 2 rfl trivial ?_
          obtain ⟨b_2, g_3, h⟩ := Sh.bind_some h
          refine WpOps.cutB 4 47 (bA b_2) rfl ?_ ?_
          ·
            refine WpOps.pn 1 rfl trivial ?_
            refine WpOps.split 44 rfl (fun hb => ?_) (fun hb => ?_)
            ·
              replace g_3 := Sh.ite_pos hb g_3
              refine WpOps.pn 3 rfl trivial ?_
              refine WpOps.nil ?_
              obtain rfl := Sh.some_inj g_3
              exact ⟨rfl, rfl⟩
            ·
              replace g_3 := Sh.ite_neg hb g_3
              refine WpOps.pn 3 rfl trivial ?_
              refine WpOps.nil ?_
              obtain rfl := Sh.some_inj g_3
              exact ⟨rfl, rfl⟩
          intro env
          refine WpOps.nil ?_
          refine WpC.condB rfl (fun hb => ?_) (fun hb => ?_)
          ·
            replace h := Sh.ite_pos hb h
            refine WpC.seqR ?_
            refine WpOps.pn 1 rfl trivial ?_
            refine WpOps.nil ?_
            obtain rfl := Sh.some_inj h
            have e := hd_1 _ rfl
            subst e
            have h := hk_1
            obtain rfl := Sh.some_inj h
            refine WpC.ret ?_
            exact VEnds.ret1 rfl rfl ⟨rfl, hH⟩
          ·
            replace h := Sh.ite_neg hb h
            refine WpC.skipD ?_
            refine ⟨_, Heap.le_refl _, ?_⟩
            refine WpC.seqR ?_
            obtain ⟨c_2, h⟩ := Sh.chk_some h
            refine WpOps.pn 3 rfl c_2 ?_
            refine WpOps.nil ?_
            obtain rfl := Sh.some_inj h
            have e := hd_1 _ rfl
            subst e
            have h := hk_1
            obtain rfl := Sh.some_inj h
            refine WpC.ret ?_
            exact VEnds.ret1 rfl rfl ⟨rfl, hH⟩
        ·
          replace h := Sh.ite_neg hb h
          refine WpC.seqR ?_
          refine WpOps.pn 2 rfl trivial ?_
          refine WpOps.nil ?_
          refine WpC.condB rfl (fun hb => ?_) (fun hb => ?_)
          ·
            replace h := Sh.ite_pos hb h
            refine WpC.seqR ?_
            refine WpOps.pn 1 rfl trivial ?_
            refine WpOps.nil ?_
            obtain rfl := Sh.some_inj h
            have e := hd_1 _ rfl
            subst e
            have h := hk_1
            obtain rfl := Sh.some_inj h
            refine WpC.ret ?_
            exact VEnds.ret1 rfl rfl ⟨rfl, hH⟩
          ·
            replace h := Sh.ite_neg hb h
            refine WpC.seqR ?_
            refine WpOps.pn 2 rfl trivial ?_
            refine WpOps.nil ?_
            refine WpC.condB rfl (fun hb => ?_) (fun hb => ?_)
            ·
              replace h := Sh.ite_pos hb h
              refine WpC.seqR ?_
              obtain ⟨c_3, h⟩ := Sh.chk_some h
              refine WpOps.pn 3 rfl c_3 ?_
              refine WpOps.nil ?_
              refine WpC.seqD [.I, .I, .S, .I, .I, .I, .I, .I, .S, .I, .I, .I, .I, .I, .S] [0, 1, 2, 3, 4, 5, 6, 7, 8, 9, 10, 11, 12, 13, 14, 15, 16, 17] (by kernel_rfl) (by kernel_rfl) ?_
              obtain ⟨r_4, hr_3, h⟩ := Sh.bind_some h
              refine WpPi.pn 2 rfl trivial ?_
              refine WpPi.consS (v := (u8A r_4)) rfl rfl rfl rfl (Exact.call rfl rfl rfl (w_pptok_reader_byte (hH.cell (i := 0) rfl) hr_3)) ?_
              refine WpPi.pn 1 rfl trivial ?_
              obtain ⟨b_3, g_4, h⟩ := Sh.bind_some h
              refine WpPi.cutB 14 73 (bA b_3) rfl ?_ ?_
              ·
                refine WpPi.pn 1 rfl trivial ?_
                refine WpPi.split 60 rfl (fun hb => ?_) (fun hb => ?_)
                ·
                  replace g_4 := Sh.ite_pos hb g_4
                  refine WpPi.pn 3 rfl trivial ?_
                  refine WpPi.consS (v := (iA r_1.at_)) rfl rfl rfl rfl (Exact.load rfl rfl (hH.cell (i := 0) rfl) rfl rfl) ?_
                  obtain ⟨c_4, g_4⟩ := Sh.chk_some g_4
                  refine WpPi.pn 5 rfl c_4 ?_
                  refine WpPi.consS (v := (sA r_1.s)) rfl rfl rfl rfl (Exact.load rfl rfl (hH.cell (i := 0) rfl) rfl rfl) ?_
                  refine WpPi.pn 3 rfl trivial ?_
                  refine WpPi.nil ?_
                  obtain rfl := Sh.some_inj g_4
                  exact ⟨rfl, rfl⟩
                ·
                  replace g_4 := Sh.ite_neg hb g_4
                  refine WpPi.pn 3 rfl trivial ?_
                  refine WpPi.skip rfl rfl rfl ?_
                  refine WpPi.pn 5 rfl trivial ?_
                  refine WpPi.skip rfl rfl rfl ?_
                  refine WpPi.pn 3 rfl trivial ?_
                  refine WpPi.nil ?_
                  obtain rfl := Sh.some_inj g_4
                  exact ⟨rfl, rfl⟩
              intro env
              refine WpPi.nil ?_
              refine WpC.condB rfl (fun hb => ?_) (fun hb => ?_)
              ·
                replace h := Sh.ite_pos hb h
                refine WpC.seqR ?_
                refine WpOps.pn 1 rfl trivial ?_
                refine WpOps.nil ?_
                obtain rfl := Sh.some_inj h
                have e := hd_1 _ rfl
                subst e
                have h := hk_1
                obtain rfl := Sh.some_inj h
                refine WpC.ret ?_
                exact VEnds.ret1 rfl rfl ⟨rfl, hH⟩
              ·
                replace h := Sh.ite_neg hb h
                refine WpC.skipD ?_
                refine ⟨_, Heap.le_refl _, ?_⟩
                refine WpC.regionD ?_
                obtain ⟨c_5, h⟩ := Sh.chk_some h
                refine WpOps.pn 3 rfl c_5 ?_
                refine WpOps.nil ?_
                obtain rfl := Sh.some_inj h
                exact ⟨_, (Heap.le_refl _), ((n_1 + (1 : Int)) + (1 : Int)), (), rfl, ⟨rfl, rfl, rfl, trivial⟩, hH⟩
            ·
              replace h := Sh.ite_neg hb h
              refine WpC.skipD ?_
              refine ⟨_, Heap.le_refl _, ?_⟩
              refine WpC.regionD ?_
              obtain ⟨c_6, h⟩ := Sh.chk_some h
              refine WpOps.pn 3 rfl c_6 ?_
              refine WpOps.nil ?_
              obtain rfl := Sh.some_inj h
              exact ⟨_, (Heap.le_refl _), (n_1 + (1 : Int)), (), rfl, ⟨rfl, rfl, rfl, trivial⟩, hH⟩
      ·
        replace h := Sh.ite_neg hb h
        obtain rfl := Sh.some_inj h
        have e := hd_1 _ rfl
        subst e
        refine WpC.exit ?_
        exact ⟨((), ()), trivial, hk_1, hH⟩
    ·
      rintro ⟨_, _⟩ env H' ⟨h, hH⟩
      try dsimp only at h
      refine ⟨_, Heap.le_refl _, ?_⟩
      refine WpC.seqR ?_
      refine WpOps.pn 1 rfl trivial ?_
      refine WpOps.nil ?_
      obtain rfl := Sh.some_inj h
      refine WpC.ret ?_
      exact VEnds.ret1 rfl rfl ⟨rfl, hH⟩

theorem w_pptok_reader_sign {H : Heap} (hG : Glob H) {g_1 : Nat} {r_1 : GPptok_reader} (hg : H g_1 = some (.cells 81 (cGPptok_reader r_1))) {r : Int} (h : pptok_reader_sign r_1 = some r) : TCall Tryd.prog 80 [(.lit (.pointer (some ⟨g_1, 0, none⟩)))] H (fun v H' => v = (iA r) ∧ H' = H) noE := by
  obtain ⟨H0, hH⟩ : ∃ H0, Holds H0 [.cell g_1 81 (cGPptok_reader r_1)] H := ⟨_, Holds.of_cell hg⟩
  have hG := hG.held hH
  refine TCall.held hH (id (TCall.body Tryd.func80 rfl rfl ?_))
  refine WpC.seqR ?_
  refine WpOps.pn 1 rfl trivial ?_
  refine WpOps.nil ?_
  refine WpC.scope ?_
  refine WpC.seqR ?_
  refine WpOps.pn 1 rfl trivial ?_
  refine WpOps.nil ?_
  refine WpC.seq (WpC.label ?_)
  refine WpC.seq ?_
  refine WpC.seqR ?_
  refine WpOps.consE (v := (AV.agg (List.map (fun y => (sA y)) signs))) rfl rfl (Exact.load rfl rfl (hG.up hH).signs rfl (by kernel_rfl)) ?_
  refine WpOps.pn 1 rfl trivial ?_
  refine WpOps.nil ?_
  refine WpC.blockK (fun x : (Int) × (Unit) => [(3, (iA x.1))]) (fun x H' => pptok_reader_sign_j1 x.1 = some r ∧ Holds H0 [.cell g_1 81 (cGPptok_reader r_1)] H') ?_ ?_
  ·
    obtain ⟨o_1, ho_1, hk_1⟩ := Sh.bind_some h
    refine WpC.loopS (pptok_reader_sign_b2 r_1) (fun (s : Int × Int) (a : Unit) => [(0, (.lit (.pointer (some ⟨g_1, 0, none⟩)))), (3, (iA s.1)), (6, (AV.agg (List.map (fun y => (sA y)) signs))), (7, (iA s.2))]) (fun (s : Int × Int) (a : Unit) H' => Holds H0 [.cell g_1 81 (cGPptok_reader r_1)] H') o_1 ((0 : Int), (0 : Int)) () ho_1 ⟨rfl, rfl, rfl, rfl, trivial⟩ hH ?_
    rintro ⟨n_1, t7_1⟩ _ st_1 env H' h hd_1 hH
    refine WpC.seqR ?_
    refine WpOps.pn 1 rfl trivial ?_
    refine WpOps.nil ?_
    refine WpC.seq ?_
    refine WpC.condB rfl (fun hb => ?_) (fun hb => ?_)
    ·
      replace h := Sh.ite_pos hb h
      refine WpC.skipD ?_
      refine ⟨_, Heap.le_refl _, ?_⟩
      refine WpC.seq ?_
      refine WpC.block ?_
      refine WpC.seqR ?_
      obtain ⟨y_1, hy_1, h⟩ := Sh.bind_some h
      refine WpOps.consE (v := (sA y_1)) rfl rfl (Exact.ixa (fun y => (sA y)) hy_1 rfl rfl rfl rfl rfl (by kernel_rfl) rfl) ?_
      refine WpOps.pn 1 rfl trivial ?_
      refine WpOps.nil ?_
      refine WpC.seq ?_
      refine WpC.seqR ?_
      refine WpOps.pn 4 rfl trivial ?_
      obtain ⟨b_1, g_2, h⟩ := Sh.bind_some h
      refine WpOps.cutB 6 19 (bA b_1) rfl ?_ ?_
      ·
        refine WpOps.pn 1 rfl trivial ?_
        refine WpOps.split 14 rfl (fun hb => ?_) (fun hb => ?_)
        ·
          replace g_2 := Sh.ite_pos hb g_2
          refine WpOps.pn 5 rfl trivial ?_
          refine WpOps.nil ?_
          obtain rfl := Sh.some_inj g_2
          exact ⟨rfl, rfl⟩
        ·
          replace g_2 := Sh.ite_neg hb g_2
          obtain ⟨r_2, hr_1, g_2⟩ := Sh.bind_some g_2
          refine WpOps.pn 2 rfl trivial ?_
          refine WpOps.consE (v := (bA r_2)) rfl rfl (Exact.call rfl rfl rfl (w_pptok_reader_has (hH.cell (i := 0) rfl) hr_1)) ?_
          refine WpOps.pn 2 rfl trivial ?_
          refine WpOps.nil ?_
          obtain rfl := Sh.some_inj g_2
          exact ⟨rfl, rfl⟩
      intro env
      refine WpOps.nil ?_
      refine WpC.condB rfl (fun hb => ?_) (fun hb => ?_)
      ·
        replace h := Sh.ite_pos hb h
        refine WpC.exitD ?_
        refine ⟨_, Heap.le_refl _, ?_⟩
        refine WpC.regionD ?_
        obtain ⟨c_1, h⟩ := Sh.chk_some h
        refine WpOps.pn 2 rfl c_1 ?_
        refine WpOps.nil ?_
        obtain rfl := Sh.some_inj h
        exact ⟨_, (Heap.le_refl _), (n_1, (t7_1 + (1 : Int))), (), rfl, ⟨rfl, rfl, rfl, rfl, trivial⟩, hH⟩
      ·
        replace h := Sh.ite_neg hb h
        refine WpC.skipD ?_
        refine ⟨_, Heap.le_refl _, ?_⟩
        refine WpC.regionD ?_
        refine WpOps.pn 3 rfl trivial ?_
        refine WpOps.nil ?_
        refine ⟨_, Heap.le_refl _, ?_⟩
        refine WpC.regionD ?_
        obtain ⟨c_2, h⟩ := Sh.chk_some h
        refine WpOps.pn 2 rfl c_2 ?_
        refine WpOps.nil ?_
        obtain rfl := Sh.some_inj h
        exact ⟨_, (Heap.le_refl _), ((y_1.length : Int), (t7_1 + (1 : Int))), (), rfl, ⟨rfl, rfl, rfl, rfl, trivial⟩, hH⟩
    ·
      replace h := Sh.ite_neg hb h
      obtain rfl := Sh.some_inj h
      have e := hd_1 _ rfl
      subst e
      refine WpC.exit ?_
      exact ⟨(n_1, ()), ⟨rfl, trivial⟩, hk_1, hH⟩
  ·
    rintro ⟨n_2, _⟩ env H' ⟨h, hH⟩
    try dsimp only at h
    refine ⟨_, Heap.le_refl _, ?_⟩
    refine WpC.seqR ?_
    refine WpOps.pn 2 rfl trivial ?_
    refine WpOps.nil ?_
    obtain rfl := Sh.some_inj h
    refine WpC.ret ?_
    exact VEnds.ret1 rfl rfl ⟨rfl, hH⟩

theorem w_pptok_reader_next {H : Heap} (hG : Glob H) {g_1 : Nat} {r_1 : GPptok_reader} (hg : H g_1 = some (.cells 81 (cGPptok_reader r_1))) {r : Int × Int} (h : pptok_reader_next r_1 = some r) : TCall Tryd.prog 57 [(.lit (.pointer (some ⟨g_1, 0, none⟩)))] H (fun v H' => v = (.tup [(iA r.1), (iA r.2)]) ∧ H' = H) noE := by
  obtain ⟨H0, hH⟩ : ∃ H0, Holds H0 [.cell g_1 81 (cGPptok_reader r_1)] H := ⟨_, Holds.of_cell hg⟩
  have hG := hG.held hH
  refine TCall.held hH (id (TCall.body Tryd.func57 rfl rfl ?_))
  refine WpC.seqR ?_
  refine WpOps.pn 2 rfl trivial ?_
  refine WpOps.nil ?_
  refine WpC.seq ?_
  refine WpC.seqR ?_
  obtain ⟨r_2, hr_1, h⟩ := Sh.bind_some h
  refine WpOps.pn 1 rfl trivial ?_
  refine WpOps.consE (v := (bA r_2)) rfl rfl (Exact.call rfl rfl rfl (w_pptok_reader_has (hH.cell (i := 0) rfl) hr_1)) ?_
  refine WpOps.nil ?_
  refine WpC.condB rfl (fun hb => ?_) (fun hb => ?_)
  ·
    replace h := Sh.ite_pos hb h
    refine WpC.seqR ?_
    refine WpOps.pn 2 rfl trivial ?_
    refine WpOps.nil ?_
    obtain rfl := Sh.some_inj h
    refine WpC.ret ?_
    exact VEnds.ret2 rfl rfl rfl ⟨rfl, hH⟩
  ·
    replace h := Sh.ite_neg hb h
    refine WpC.skipD ?_
    refine ⟨_, Heap.le_refl _, ?_⟩
    refine WpC.seq ?_
    refine WpC.seqR ?_
    obtain ⟨r_3, hr_2, h⟩ := Sh.bind_some h
    refine WpOps.pn 1 rfl trivial ?_
    refine WpOps.consE (v := (iA r_3)) rfl rfl (Exact.call rfl rfl rfl (w_pptok_reader_word (hH.cell (i := 0) rfl) hr_2)) ?_
    refine WpOps.pn 1 rfl trivial ?_
    refine WpOps.nil ?_
    refine WpC.seqR ?_
    refine WpOps.pn 2 rfl trivial ?_
    refine WpOps.nil ?_
    refine WpC.condB rfl (fun hb => ?_) (fun hb => ?_)
    ·
      replace h := Sh.ite_pos hb h
      refine WpC.seqR ?_
      refine WpOps.pn 3 rfl trivial ?_
      refine WpOps.nil ?_
      obtain rfl := Sh.some_inj h
      refine WpC.ret ?_
      exact VEnds.ret2 rfl rfl rfl ⟨rfl, hH⟩
    ·
      replace h := Sh.ite_neg hb h
      refine WpC.skipD ?_
      refine ⟨_, Heap.le_refl _, ?_⟩
      refine WpC.seq ?_
      refine WpC.seqR ?_
      obtain ⟨r_4, hr_3, h⟩ := Sh.bind_some h
      refine WpOps.pn 1 rfl trivial ?_
      refine WpOps.consE (v := (iA r_4)) rfl rfl (Exact.call rfl rfl rfl (w_pptok_reader_number (hH.cell (i := 0) rfl) hr_3)) ?_
      refine WpOps.pn 1 rfl trivial ?_
      refine WpOps.nil ?_
      refine WpC.seqR ?_
      refine WpOps.pn 2 rfl trivial ?_
      refine WpOps.nil ?_
      refine WpC.condB rfl (fun hb => ?_) (fun hb => ?_)
      ·
        replace h := Sh.ite_pos hb h
        refine WpC.seqR ?_
        refine WpOps.pn 3 rfl trivial ?_
        refine WpOps.nil ?_
        obtain rfl := Sh.some_inj h
        refine WpC.ret ?_
        exact VEnds.ret2 rfl rfl rfl ⟨rfl, hH⟩
      ·
        replace h := Sh.ite_neg hb h
        refine WpC.skipD ?_
        refine ⟨_, Heap.le_refl _, ?_⟩
        refine WpC.seq ?_
        refine WpC.seqR ?_
        obtain ⟨r_5, hr_4, h⟩ := Sh.bind_some h
        refine WpOps.pn 1 rfl trivial ?_
        refine WpOps.consE (v := (iA r_5)) rfl rfl (Exact.call rfl rfl rfl (w_pptok_reader_quoted (hH.cell (i := 0) rfl) hr_4)) ?_
        refine WpOps.pn 1 rfl trivial ?_
        refine WpOps.nil ?_
        refine WpC.seqR ?_
        refine WpOps.pn 2 rfl trivial ?_
        refine WpOps.nil ?_
        refine WpC.condB rfl (fun hb => ?_) (fun hb => ?_)
        ·
          replace h := Sh.ite_pos hb h
          refine WpC.seqR ?_
          refine WpOps.pn 3 rfl trivial ?_
          refine WpOps.nil ?_
          obtain rfl := Sh.some_inj h
          refine WpC.ret ?_
          exact VEnds.ret2 rfl rfl rfl ⟨rfl, hH⟩
        ·
          replace h := Sh.ite_neg hb h
          refine WpC.skipD ?_
          refine ⟨_, Heap.le_refl _, ?_⟩
          refine WpC.seq ?_
          refine WpC.seqR ?_
          obtain ⟨r_6, hr_5, h⟩ := Sh.bind_some h
          refine WpOps.pn 1 rfl trivial ?_
          refine WpOps.consE (v := (iA r_6)) rfl rfl (Exact.call rfl rfl rfl (w_pptok_reader_quoted (hH.cell (i := 0) rfl) hr_5)) ?_
          refine WpOps.pn 1 rfl trivial ?_
          refine WpOps.nil ?_
          refine WpC.seqR ?_
          refine WpOps.pn 2 rfl trivial ?_
          refine WpOps.nil ?_
          refine WpC.condB rfl (fun hb => ?_) (fun hb => ?_)
          ·
            replace h := Sh.ite_pos hb h
            refine WpC.seqR ?_
            refine WpOps.pn 3 rfl trivial ?_
            refine WpOps.nil ?_
            obtain rfl := Sh.some_inj h
            refine WpC.ret ?_
            exact VEnds.ret2 rfl rfl rfl ⟨rfl, hH⟩
          ·
            replace h := Sh.ite_neg hb h
            refine WpC.skipD ?_
            refine ⟨_, Heap.le_refl _, ?_⟩
            refine WpC.seq ?_
            refine WpC.seqR ?_
            obtain ⟨r_7, hr_6, h⟩ := Sh.bind_some h
            refine WpOps.pn 1 rfl trivial ?_
            refine WpOps.consE (v := (iA r_7)) rfl rfl (Exact.call rfl rfl rfl (w_pptok_reader_sign (hG.up hH) (hH.cell (i := 0) rfl) hr_6)) ?_
            refine WpOps.pn 1 rfl trivial ?_
            refine WpOps.nil ?_
            refine WpC.seqR ?_
            refine WpOps.pn 2 rfl trivial ?_
            refine WpOps.nil ?_
            refine WpC.condB rfl (fun hb => ?_) (fun hb => ?_)
            ·
              replace h := Sh.ite_pos hb h
              refine WpC.seqR ?_
              refine WpOps.pn 3 rfl trivial ?_
              refine WpOps.nil ?_
              obtain rfl := Sh.some_inj h
              refine WpC.ret ?_
              exact VEnds.ret2 rfl rfl rfl ⟨rfl, hH⟩
            ·
              replace h := Sh.ite_neg hb h
              refine WpC.skipD ?_
              refine ⟨_, Heap.le_refl _, ?_⟩
              refine WpC.seqR ?_
              refine WpOps.pn 2 rfl trivial ?_
              refine WpOps.nil ?_
              obtain rfl := Sh.some_inj h
              refine WpC.ret ?_
              exact VEnds.ret2 rfl rfl rfl ⟨rfl, hH⟩

theorem w_pptok_Tokens {H0 : Heap} (hG : Glob H0) {file_1 : Int} {text_1 : List UInt8} {r : List GTok} (h : pptok_Tokens file_1 text_1 = some r) : TCall Tryd.prog 33 [(iA file_1), (sA text_1)] H0 (fun v H' => v = (AV.rows 6 (List.map cGTok r)) ∧ H' = H0) noE := by
  refine id (TCall.body Tryd.func33 rfl rfl ?_)
  have hH : Holds H0 [] H0 := rfl
  refine WpC.seqR ?_
  refine WpOps.pn 1 rfl trivial ?_
  refine WpOps.nil ?_
  refine WpC.seqR ?_
  obtain ⟨r_1, hr_1, h⟩ := Sh.bind_some h
  refine WpOps.pn 1 rfl trivial ?_
  refine WpOps.consE (v := (AV.rows 2 (List.map cGChar r_1))) rfl rfl (Exact.call rfl rfl rfl (w_splice_Join hr_1)) ?_
  refine WpOps.pn 1 rfl trivial ?_
  refine WpOps.nil ?_
  refine WpC.seqR ?_
  obtain ⟨r_2, hr_2, h⟩ := Sh.bind_some h
  refine WpOps.pn 1 rfl trivial ?_
  refine WpOps.consE (v := (sA r_2)) rfl rfl (Exact.call rfl rfl rfl (w_splice_Text hr_2)) ?_
  refine WpOps.pn 1 rfl trivial ?_
  refine WpOps.consG rfl rfl (WpO.boxT (v := (AV.agg (cGPptok_reader (GPptok_reader.mk r_2 (0 : Int))))) rfl rfl hH fun g_1 H' hH => ?_)
  refine WpOps.pn 1 rfl trivial ?_
  refine WpOps.nil ?_
  refine WpC.seqR ?_
  refine WpOps.pn 1 rfl trivial ?_
  have hH := hH.nil 44 6
  refine WpOps.nil ?_
  refine WpC.block ?_
  obtain ⟨o_1, ho_1, hk_1⟩ := Sh.bind_some h
  refine WpC.loopS (pptok_Tokens_b1 file_1 r_1) (fun (s : List GTok × GPptok_reader) (a : (Option (Nat × Nat))) => [(0, (iA file_1)), (5, (AV.rows 2 (List.map cGChar r_1))), (6, (.lit (.pointer (some ⟨g_1, 0, none⟩)))), (7, (.own (List.map cGTok s.1).length a))]) (fun (s : List GTok × GPptok_reader) (a : (Option (Nat × Nat))) H' => Holds H0 [.own 44 6 a (List.map cGTok s.1), .cell g_1 81 (cGPptok_reader s.2)] H') o_1 (([] : List GTok), (GPptok_reader.mk r_2 (0 : Int))) none ho_1 ⟨rfl, rfl, rfl, rfl, trivial⟩ hH ?_
  rintro ⟨out_1, r_3⟩ p_1 st_1 env H' h hd_1 hH
  refine WpC.block ?_
  refine WpC.seqR ?_
  refine WpOps.pn 2 rfl trivial ?_
  refine WpOps.consG rfl rfl (WpO.allocT (z := cGTok (GTok.mk (0 : Int) ([] : List UInt8) (0 : Int) (0 : Int) (0 : Int) false)) rfl rfl hH fun g_2 H' hH => ?_)
  refine WpOps.consG rfl rfl (WpO.putT (cs' := cGTok (GTok.mk (0 : Int) ([] : List UInt8) file_1 (0 : Int) (0 : Int) false)) (v := (AV.agg (cGTok (GTok.mk (0 : Int) ([] : List UInt8) file_1 (0 : Int) (0 : Int) false)))) rfl rfl hH (i := 0) rfl rfl rfl rfl rfl rfl rfl fun H' hH => ?_)
  refine WpOps.nil ?_
  refine WpC.seqB (fun x : (GTok × GPptok_reader) × (Unit) => [(0, (iA file_1)), (5, (AV.rows 2 (List.map cGChar r_1))), (6, (.lit (.pointer (some ⟨g_1, 0, none⟩)))), (7, (.own (List.map cGTok out_1).length p_1)), (8, (.lit (.pointer (some ⟨g_2, 0, none⟩))))]) (fun x H' => (pptok_Tokens_j2 r_1 out_1) x.1 = some st_1 ∧ Holds H0 [.cell g_2 44 (cGTok x.1.1), .own 44 6 p_1 (List.map cGTok out_1), .cell g_1 81 (cGPptok_reader x.1.2)] H') ?_ ?_
  ·
    obtain ⟨o_2, ho_2, hk_2⟩ := Sh.bind_some h
    refine WpC.loopS pptok_Tokens_b3 (fun (s : GTok × GPptok_reader) (a : Unit) => [(0, (iA file_1)), (5, (AV.rows 2 (List.map cGChar r_1))), (6, (.lit (.pointer (some ⟨g_1, 0, none⟩)))), (7, (.own (List.map cGTok out_1).length p_1)), (8, (.lit (.pointer (some ⟨g_2, 0, none⟩))))]) (fun (s : GTok × GPptok_reader) (a : Unit) H' => Holds H0 [.cell g_2 44 (cGTok s.1), .own 44 6 p_1 (List.map cGTok out_1), .cell g_1 81 (cGPptok_reader s.2)] H') o_2 ((GTok.mk (0 : Int) ([] : List UInt8) file_1 (0 : Int) (0 : Int) false), r_3) () ho_2 ⟨rfl, rfl, rfl, rfl, rfl, trivial⟩ hH ?_
    rintro ⟨t_1, r_4⟩ _ st_2 env H' h hd_2 hH
    refine WpC.seq ?_
    refine WpC.seqD [.I, .I, .I, .S, .I, .I, .I, .S, .I, .I, .I, .I, .E] [0, 1, 2, 3, 4, 5, 6, 7, 8, 9, 10, 11, 12, 13] (by kernel_rfl) (by kernel_rfl) ?_
    refine WpPi.pn 3 rfl trivial ?_
    refine WpPi.consS (v := (iA r_4.at_)) rfl rfl rfl rfl (Exact.load rfl rfl (hH.cell (i := 2) rfl) rfl rfl) ?_
    refine WpPi.pn 3 rfl trivial ?_
    refine WpPi.consS (v := (sA r_4.s)) rfl rfl rfl rfl (Exact.load rfl rfl (hH.cell (i := 2) rfl) rfl rfl) ?_
    refine WpPi.pn 2 rfl trivial ?_
    refine WpPi.pn 1 rfl trivial ?_
    refine WpPi.split 29 rfl (fun hb => ?_) (fun hb => ?_)
    ·
      replace h := Sh.ite_pos hb h
      obtain ⟨r_5, hr_3, h⟩ := Sh.bind_some h
      refine WpPi.pn 1 rfl trivial ?_
      refine WpPi.consE rfl rfl rfl rfl (WpO.callT (v := (bA r_5.1)) rfl rfl rfl hH (i := 2) rfl (fun H1 hl hh => w_pptok_reader_blank (hG.le hl) hh hr_3) fun H' hH => ?_)
      refine WpPi.pn 1 rfl trivial ?_
      refine WpPi.nil ?_
      refine WpC.condB rfl (fun hb => ?_) (fun hb => ?_)
      ·
        replace h := Sh.ite_pos hb h
        refine WpC.skipD ?_
        refine ⟨_, Heap.le_refl _, ?_⟩
        refine WpC.block ?_
        refine WpC.regionD ?_
        refine WpOps.pn 1 rfl trivial ?_
        refine WpOps.consG rfl rfl (WpO.putT (cs' := cGTok (GTok.mk t_1.kind t_1.text t_1.file_ t_1.from_ t_1.to true)) (v := (bA true)) rfl rfl hH (i := 0) rfl rfl rfl rfl rfl rfl rfl fun H' hH => ?_)
        refine WpOps.nil ?_
        obtain rfl := Sh.some_inj h
        exact ⟨_, (Heap.le_refl _), ((GTok.mk t_1.kind t_1.text t_1.file_ t_1.from_ t_1.to true), r_5.2), (), rfl, ⟨rfl, rfl, rfl, rfl, rfl, trivial⟩, hH⟩
      ·
        replace h := Sh.ite_neg hb h
        obtain rfl := Sh.some_inj h
        have e := hd_2 _ rfl
        subst e
        refine WpC.exit ?_
        exact ⟨((t_1, r_5.2), ()), ⟨rfl, rfl, rfl, rfl, rfl, trivial⟩, hk_2, hH⟩
    ·
      replace h := Sh.ite_neg hb h
      refine WpPi.pn 1 rfl trivial ?_
      refine WpPi.skip rfl rfl rfl ?_
      refine WpPi.pn 1 rfl trivial ?_
      refine WpPi.nil ?_
      refine WpC.condF rfl ?_
      obtain rfl := Sh.some_inj h
      have e := hd_2 _ rfl
      subst e
      refine WpC.exit ?_
      exact ⟨((t_1, r_4), ()), ⟨rfl, rfl, rfl, rfl, rfl, trivial⟩, hk_2, hH⟩
  ·
    rintro ⟨⟨l_1, r_6⟩, _⟩ env H' ⟨h, hH⟩
    try dsimp only at h
    refine WpC.seq ?_
    refine WpC.seqD [.I, .I, .I, .S, .I, .I, .I, .S] [0, 1, 2, 3, 4, 5, 6, 7, 8, 9] (by kernel_rfl) (by kernel_rfl) ?_
    refine WpPi.pn 3 rfl trivial ?_
    refine WpPi.consS (v := (iA r_6.at_)) rfl rfl rfl rfl (Exact.load rfl rfl (hH.cell (i := 2) rfl) rfl rfl) ?_
    refine WpPi.pn 3 rfl trivial ?_
    refine WpPi.consS (v := (sA r_6.s)) rfl rfl rfl rfl (Exact.load rfl rfl (hH.cell (i := 2) rfl) rfl rfl) ?_
    refine WpPi.pn 2 rfl trivial ?_
    refine WpPi.nil ?_
    refine WpC.condB rfl (fun hb => ?_) (fun hb => ?_)
    ·
      replace h := Sh.ite_pos hb h
      refine WpC.seqR ?_
      refine WpOps.pn 2 rfl trivial ?_
      refine WpOps.nil ?_
      refine WpC.freeze (t := 4) (i := 1) hH rfl rfl (fun H' hH => ?_)
      refine WpC.lose (i := 0) hH rfl (fun H' hH => ?_)
      refine WpC.lose (i := 0) hH rfl (fun H' hH => ?_)
      obtain rfl := Sh.some_inj h
      have e := hd_1 _ rfl
      subst e
      have h := hk_1
      obtain rfl := Sh.some_inj h
      refine WpC.ret ?_
      exact VEnds.ret1 rfl rfl ⟨rfl, hH⟩
    ·
      replace h := Sh.ite_neg hb h
      refine WpC.skipD ?_
      refine ⟨_, Heap.le_refl _, ?_⟩
      refine WpC.seqR ?_
      obtain ⟨r_7, hr_4, h⟩ := Sh.bind_some h
      refine WpOps.pn 1 rfl trivial ?_
      refine WpOps.consE (v := (.tup [(iA r_7.1), (iA r_7.2)])) rfl rfl (Exact.call rfl rfl rfl (w_pptok_reader_next (hG.up hH) (hH.cell (i := 2) rfl) hr_4)) ?_
      refine WpOps.pn 5 rfl trivial ?_
      refine WpOps.nil ?_
      refine WpC.seqDI (fun H => H g_1 = some (.cells 81 (cGPptok_reader r_6)) ∧ Glob H ∧ True) [.I, .I, .I, .I, .I, .I, .I, .I, .I, .I, .I, .I, .I, .I, .I, .I, .I, .E, .I, .E] [0, 1, 2, 3, 4, 5, 6, 7, 8, 9, 10, 11, 12, 13, 14, 15, 16, 17, 18, 19] (by kernel_rfl) (by kernel_rfl) ⟨hH.cell (i := 2) rfl, hG.up hH, trivial⟩ ?_
      refine WpPi.pn 4 rfl trivial ?_
      refine WpPi.consV (v := (sA r_6.s)) rfl rfl rfl rfl (fun _ hi => Exact.load rfl rfl hi.1 rfl rfl) ?_
      refine WpPi.pn 3 rfl trivial ?_
      refine WpPi.consV (v := (iA r_6.at_)) rfl rfl rfl rfl (fun _ hi => Exact.load rfl rfl hi.1 rfl rfl) ?_
      refine WpPi.pn 3 rfl trivial ?_
      refine WpPi.consV (v := (iA r_6.at_)) rfl rfl rfl rfl (fun _ hi => Exact.load rfl rfl hi.1 rfl rfl) ?_
      obtain ⟨c_1, h⟩ := Sh.chk_some h
      obtain ⟨c_2, h⟩ := Sh.chk_some h
      refine WpPi.pn 2 rfl c_1 ?_
      refine WpPi.pn 1 rfl (show 0 ≤ r_6.at_ ∧ 0 ≤ (r_6.at_ + r_7.2) ∧ ((r_6.at_).toNat ≤ ((r_6.at_ + r_7.2)).toNat ∧ ((r_6.at_ + r_7.2)).toNat ≤ r_6.s.length) from ⟨(by omega), (by omega), (by omega)⟩) ?_
      refine WpPi.pn 1 rfl trivial ?_
      refine WpPi.consF rfl rfl rfl rfl (WpO.putT (cs' := cGTok (GTok.mk r_7.1 l_1.text l_1.file_ l_1.from_ l_1.to l_1.blank)) (v := (iA r_7.1)) rfl rfl hH (i := 0) rfl rfl rfl rfl rfl rfl rfl fun H' hH => ⟨⟨hH.cell (i := 2) rfl, hG.up hH, trivial⟩, ?_⟩)
      refine WpPi.pn 1 rfl trivial ?_
      refine WpPi.consF rfl rfl rfl rfl (WpO.putT (cs' := cGTok (GTok.mk r_7.1 ((r_6.s.drop (r_6.at_).toNat).take (((r_6.at_ + r_7.2)).toNat - (r_6.at_).toNat)) l_1.file_ l_1.from_ l_1.to l_1.blank)) (v := (sA ((r_6.s.drop (r_6.at_).toNat).take (((r_6.at_ + r_7.2)).toNat - (r_6.at_).toNat)))) rfl rfl hH (i := 0) rfl rfl rfl rfl rfl rfl rfl fun H' hH => ⟨⟨hH.cell (i := 2) rfl, hG.up hH, trivial⟩, ?_⟩)
      refine WpPi.nil ?_
      refine WpC.seqDI (fun H => H g_1 = some (.cells 81 (cGPptok_reader r_6)) ∧ Glob H ∧ True) [.I, .I, .I, .I, .I, .I, .I, .I, .I, .I, .I, .I, .I, .I, .I, .I, .I, .I, .I, .I, .I, .E, .I, .E] [0, 1, 2, 3, 4, 5, 6, 7, 8, 9, 10, 11, 12, 13, 14, 15, 16, 17, 18, 19, 20, 21, 22, 23] (by kernel_rfl) (by kernel_rfl) ⟨hH.cell (i := 2) rfl, hG.up hH, trivial⟩ ?_
      refine WpPi.pn 4 rfl trivial ?_
      refine WpPi.consV (v := (iA r_6.at_)) rfl rfl rfl rfl (fun _ hi => Exact.load rfl rfl hi.1 rfl rfl) ?_
      obtain ⟨y_1, hy_1, h⟩ := Sh.bind_some h
      refine WpPi.consI (v := (.rop (cGChar y_1))) rfl rfl rfl rfl (fun _ => Exact.ixr cGChar hy_1 rfl rfl rfl rfl (by kernel_rfl) (by decide)) ?_
      refine WpPi.pn 1 rfl trivial ?_
      refine WpPi.consI (v := (iA y_1.at_)) rfl rfl rfl rfl (fun _ => Exact.load_rop rfl rfl rfl) ?_
      refine WpPi.pn 4 rfl trivial ?_
      refine WpPi.consV (v := (iA r_6.at_)) rfl rfl rfl rfl (fun _ hi => Exact.load rfl rfl hi.1 rfl rfl) ?_
      obtain ⟨c_3, h⟩ := Sh.chk_some h
      obtain ⟨c_4, h⟩ := Sh.chk_some h
      obtain ⟨y_2, hy_2, h⟩ := Sh.bind_some h
      refine WpPi.pn 3 rfl ⟨c_4, c_3⟩ ?_
      refine WpPi.consI (v := (.rop (cGChar y_2))) rfl rfl rfl rfl (fun _ => Exact.ixr cGChar hy_2 rfl rfl rfl rfl (by kernel_rfl) (by decide)) ?_
      refine WpPi.pn 1 rfl trivial ?_
      refine WpPi.consI (v := (iA y_2.at_)) rfl rfl rfl rfl (fun _ => Exact.load_rop rfl rfl rfl) ?_
      obtain ⟨c_5, h⟩ := Sh.chk_some h
      refine WpPi.pn 2 rfl c_5 ?_
      refine WpPi.consF rfl rfl rfl rfl (WpO.putT (cs' := cGTok (GTok.mk r_7.1 ((r_6.s.drop (r_6.at_).toNat).take (((r_6.at_ + r_7.2)).toNat - (r_6.at_).toNat)) l_1.file_ y_1.at_ l_1.to l_1.blank)) (v := (iA y_1.at_)) rfl rfl hH (i := 0) rfl rfl rfl rfl rfl rfl rfl fun H' hH => ⟨⟨hH.cell (i := 2) rfl, hG.up hH, trivial⟩, ?_⟩)
      refine WpPi.pn 1 rfl trivial ?_
      refine WpPi.consF rfl rfl rfl rfl (WpO.putT (cs' := cGTok (GTok.mk r_7.1 ((r_6.s.drop (r_6.at_).toNat).take (((r_6.at_ + r_7.2)).toNat - (r_6.at_).toNat)) l_1.file_ y_1.at_ (y_2.at_ + (1 : Int)) l_1.blank)) (v := (iA (y_2.at_ + (1 : Int)))) rfl rfl hH (i := 0) rfl rfl rfl rfl rfl rfl rfl fun H' hH => ⟨⟨hH.cell (i := 2) rfl, hG.up hH, trivial⟩, ?_⟩)
      refine WpPi.nil ?_
      refine WpC.seqR ?_
      refine WpOps.pn 3 rfl trivial ?_
      refine WpOps.consE (v := (iA r_6.at_)) rfl rfl (Exact.load rfl rfl (hH.cell (i := 2) rfl) rfl rfl) ?_
      obtain ⟨c_6, h⟩ := Sh.chk_some h
      refine WpOps.pn 4 rfl c_6 ?_
      refine WpOps.consG rfl rfl (WpO.putT (cs' := cGPptok_reader (GPptok_reader.mk r_6.s (r_6.at_ + r_7.2))) (v := (iA (r_6.at_ + r_7.2))) rfl rfl hH (i := 2) rfl rfl rfl rfl rfl rfl rfl fun H' hH => ?_)
      refine WpOps.nil ?_
      refine WpC.regionD ?_
      refine WpOps.pn 1 rfl trivial ?_
      refine WpOps.consE (v := (AV.agg (cGTok (GTok.mk r_7.1 ((r_6.s.drop (r_6.at_).toNat).take (((r_6.at_ + r_7.2)).toNat - (r_6.at_).toNat)) l_1.file_ y_1.at_ (y_2.at_ + (1 : Int)) l_1.blank)))) rfl rfl (Exact.load rfl rfl (hH.cell (i := 0) rfl) rfl rfl) ?_
      refine WpOps.consE (v := (AV.rows 6 (List.map cGTok ([(GTok.mk r_7.1 ((r_6.s.drop (r_6.at_).toNat).take (((r_6.at_ + r_7.2)).toNat - (r_6.at_).toNat)) l_1.file_ y_1.at_ (y_2.at_ + (1 : Int)) l_1.blank)] : List GTok)))) rfl rfl (Exact.litSlice rfl (by kernel_rfl)) ?_
      obtain ⟨c_7, h⟩ := Sh.chk_some h
      refine WpOps.consG rfl rfl (WpO.pushT cGTok out_1 ([(GTok.mk r_7.1 ((r_6.s.drop (r_6.at_).toNat).take (((r_6.at_ + r_7.2)).toNat - (r_6.at_).toNat)) l_1.file_ y_1.at_ (y_2.at_ + (1 : Int)) l_1.blank)] : List GTok) (i := 1) rfl ek41 hH rfl rfl rfl (.rows _) (fun y _ => one_cGTok y) (by simp) c_7 (by decide) fun p_2 H' hH => ?_)
      refine WpOps.pn 1 rfl trivial ?_
      refine WpOps.nil ?_
      obtain ⟨_, hle_1, hH⟩ := hH.lose_ (i := 0) rfl
      obtain rfl := Sh.some_inj h
      exact ⟨_, hle_1, ((out_1 ++ ([(GTok.mk r_7.1 ((r_6.s.drop (r_6.at_).toNat).take (((r_6.at_ + r_7.2)).toNat - (r_6.at_).toNat)) l_1.file_ y_1.at_ (y_2.at_ + (1 : Int)) l_1.blank)] : List GTok)), (GPptok_reader.mk r_6.s (r_6.at_ + r_7.2))), p_2, rfl, ⟨rfl, rfl, rfl, rfl, trivial⟩, hH⟩

theorem w_pptok_One {H0 : Heap} (hG : Glob H0) {s_1 : List UInt8} {r : GTok × Bool} (h : pptok_One s_1 = some r) : TCall Tryd.prog 34 [(sA s_1)] H0 (fun v H' => v = (.tup [(AV.agg (cGTok r.1)), (bA r.2)]) ∧ H' = H0) noE := by
  refine TCall.up (TCall.body Tryd.func34 rfl rfl ?_)
  have hH : Holds H0 [] H0 := rfl
  refine WpC.seqR ?_
  refine WpOps.consG rfl rfl (WpO.allocT (z := cGTok (GTok.mk (0 : Int) ([] : List UInt8) (0 : Int) (0 : Int) (0 : Int) false)) rfl rfl hH fun g_1 H' hH => ?_)
  refine WpOps.pn 1 rfl trivial ?_
  refine WpOps.nil ?_
  refine WpC.seqR ?_
  obtain ⟨r_1, hr_1, h⟩ := Sh.bind_some h
  refine WpOps.pn 1 rfl trivial ?_
  refine WpOps.consE (v := (AV.rows 6 (List.map cGTok r_1))) rfl rfl (Exact.call rfl rfl rfl (w_pptok_Tokens (hG.up hH) hr_1)) ?_
  refine WpOps.pn 1 rfl trivial ?_
  refine WpOps.nil ?_
  refine WpC.seq ?_
  refine WpC.seqR ?_
  refine WpOps.pn 2 rfl trivial ?_
  refine WpOps.at 8 (len_map _ _) ?_
  refine WpOps.pn 1 rfl trivial ?_
  obtain ⟨b_1, g_2, h⟩ := Sh.bind_some h
  refine WpOps.cutB 7 16 (bA b_1) rfl ?_ ?_
  ·
    refine WpOps.pn 1 rfl trivial ?_
    refine WpOps.split 10 rfl (fun hb => ?_) (fun hb => ?_)
    ·
      replace g_2 := Sh.ite_pos hb g_2
      refine WpOps.pn 6 rfl trivial ?_
      refine WpOps.nil ?_
      obtain rfl := Sh.some_inj g_2
      exact ⟨rfl, rfl⟩
    ·
      replace g_2 := Sh.ite_neg hb g_2
      obtain ⟨y_1, hy_1, g_2⟩ := Sh.bind_some g_2
      refine WpOps.pn 1 rfl trivial ?_
      refine WpOps.consE (v := (.rop (cGTok y_1))) rfl rfl (Exact.ixr cGTok hy_1 rfl rfl rfl rfl (by kernel_rfl) (by decide)) ?_
      refine WpOps.pn 1 rfl trivial ?_
      refine WpOps.consE (v := (iA y_1.kind)) rfl rfl (Exact.load_rop rfl rfl rfl) ?_
      refine WpOps.pn 2 rfl trivial ?_
      refine WpOps.nil ?_
      obtain rfl := Sh.some_inj g_2
      exact ⟨rfl, rfl⟩
  intro env
  obtain ⟨b_2, g_3, h⟩ := Sh.bind_some h
  refine WpOps.cutB 8 24 (bA b_2) rfl ?_ ?_
  ·
    refine WpOps.pn 1 rfl trivial ?_
    refine WpOps.split 17 rfl (fun hb => ?_) (fun hb => ?_)
    ·
      replace g_3 := Sh.ite_pos hb g_3
      refine WpOps.pn 7 rfl trivial ?_
      refine WpOps.nil ?_
      obtain rfl := Sh.some_inj g_3
      exact ⟨rfl, rfl⟩
    ·
      replace g_3 := Sh.ite_neg hb g_3
      obtain ⟨y_2, hy_2, g_3⟩ := Sh.bind_some g_3
      refine WpOps.pn 1 rfl trivial ?_
      refine WpOps.consE (v := (.rop (cGTok y_2))) rfl rfl (Exact.ixr cGTok hy_2 rfl rfl rfl rfl (by kernel_rfl) (by decide)) ?_
      refine WpOps.pn 1 rfl trivial ?_
      refine WpOps.consE (v := (sA y_2.text)) rfl rfl (Exact.load_rop rfl rfl rfl) ?_
      refine WpOps.pn 3 rfl trivial ?_
      refine WpOps.nil ?_
      obtain rfl := Sh.some_inj g_3
      exact ⟨rfl, rfl⟩
  intro env
  refine WpOps.nil ?_
  refine WpC.condB rfl (fun hb => ?_) (fun hb => ?_)
  ·
    replace h := Sh.ite_pos hb h
    refine WpC.seqR ?_
    refine WpOps.pn 1 rfl trivial ?_
    refine WpOps.consG rfl rfl (WpO.putT (cs' := cGTok (GTok.mk (0 : Int) ([] : List UInt8) (0 : Int) (0 : Int) (0 : Int) false)) (v := (AV.agg (cGTok (GTok.mk (0 : Int) ([] : List UInt8) (0 : Int) (0 : Int) (0 : Int) false)))) rfl rfl hH (i := 0) rfl rfl rfl rfl rfl rfl rfl fun H' hH => ?_)
    refine WpOps.pn 1 rfl trivial ?_
    refine WpOps.nil ?_
    obtain rfl := Sh.some_inj h
    refine WpC.ret ?_
    have hr := hH
    obtain ⟨_, hle_1, hx_1⟩ := hH.lose_ (i := 0) rfl
    exact VEnds.retG rfl (.cell rfl (hH.cell (i := 0) rfl) rfl rfl (.tmp rfl .nil)) ⟨_, _, Up.drop hle_1 _, rfl, hx_1⟩
  ·
    replace h := Sh.ite_neg hb h
    refine WpC.skipD ?_
    refine ⟨_, Heap.le_refl _, ?_⟩
    refine WpC.seqR ?_
    obtain ⟨y_3, hy_3, h⟩ := Sh.bind_some h
    refine WpOps.pn 1 rfl trivial ?_
    refine WpOps.consE (v := (.rop (cGTok y_3))) rfl rfl (Exact.ixr cGTok hy_3 rfl rfl rfl rfl (by kernel_rfl) (by decide)) ?_
    refine WpOps.consE (v := (AV.agg (cGTok y_3))) rfl rfl (Exact.load_rop rfl rfl rfl) ?_
    refine WpOps.consG rfl rfl (WpO.putT (cs' := cGTok y_3) (v := (AV.agg (cGTok y_3))) rfl rfl hH (i := 0) rfl rfl rfl rfl rfl rfl rfl fun H' hH => ?_)
    refine WpOps.pn 1 rfl trivial ?_
    refine WpOps.nil ?_
    obtain rfl := Sh.some_inj h
    refine WpC.ret ?_
    have hr := hH
    obtain ⟨_, hle_2, hx_2⟩ := hH.lose_ (i := 0) rfl
    exact VEnds.retG rfl (.cell rfl (hH.cell (i := 0) rfl) rfl rfl (.tmp rfl .nil)) ⟨_, _, Up.drop hle_2 _, rfl, hx_2⟩

theorem w_glue_Paste {H0 : Heap} (hG : Glob H0) {a_1 : GTok} {b_1 : GTok} {r : GTok × Int} (h : glue_Paste a_1 b_1 = some r) : TCall Tryd.prog 29 [(AV.agg (cGTok a_1)), (AV.agg (cGTok b_1))] H0 (fun v H' => v = (.tup [(AV.agg (cGTok r.1)), (iA r.2)]) ∧ H' = H0) noE := by
  refine TCall.up (TCall.body Tryd.func29 rfl rfl ?_)
  have hH : Holds H0 [] H0 := rfl
  refine WpC.seqR ?_
  refine WpOps.consG rfl rfl (WpO.boxT (v := (AV.agg (cGTok a_1))) rfl rfl hH fun g_1 H' hH => ?_)
  refine WpOps.consG rfl rfl (WpO.boxT (v := (AV.agg (cGTok b_1))) rfl rfl hH fun g_2 H' hH => ?_)
  refine WpOps.consG rfl rfl (WpO.allocT (z := cGTok (GTok.mk (0 : Int) ([] : List UInt8) (0 : Int) (0 : Int) (0 : Int) false)) rfl rfl hH fun g_3 H' hH => ?_)
  refine WpOps.pn 1 rfl trivial ?_
  refine WpOps.nil ?_
  refine WpC.seqR ?_
  refine WpOps.pn 1 rfl trivial ?_
  refine WpOps.consE (v := (sA a_1.text)) rfl rfl (Exact.load rfl rfl (hH.cell (i := 2) rfl) rfl rfl) ?_
  refine WpOps.pn 1 rfl trivial ?_
  refine WpOps.consE (v := (sA b_1.text)) rfl rfl (Exact.load rfl rfl (hH.cell (i := 1) rfl) rfl rfl) ?_
  obtain ⟨c_1, h⟩ := Sh.chk_some h
  obtain ⟨r_1, hr_1, h⟩ := Sh.bind_some h
  refine WpOps.pn 1 rfl c_1 ?_
  refine WpOps.consE (v := (.tup [(AV.agg (cGTok r_1.1)), (bA r_1.2)])) rfl rfl (Exact.call rfl rfl rfl (w_pptok_One (hG.up hH) hr_1)) ?_
  refine WpOps.pn 3 rfl trivial ?_
  refine WpOps.consG rfl rfl (WpO.allocT (z := cGTok (GTok.mk (0 : Int) ([] : List UInt8) (0 : Int) (0 : Int) (0 : Int) false)) rfl rfl hH fun g_4 H' hH => ?_)
  refine WpOps.consG rfl rfl (WpO.putT (cs' := cGTok r_1.1) (v := (AV.agg (cGTok r_1.1))) rfl rfl hH (i := 0) rfl rfl rfl rfl rfl rfl rfl fun H' hH => ?_)
  refine WpOps.pn 1 rfl trivial ?_
  refine WpOps.nil ?_
  refine WpC.seq ?_
  refine WpC.seqR ?_
  refine WpOps.pn 2 rfl trivial ?_
  refine WpOps.nil ?_
  refine WpC.condB rfl (fun hb => ?_) (fun hb => ?_)
  ·
    replace h := Sh.ite_pos hb h
    refine WpC.seqR ?_
    refine WpOps.pn 1 rfl trivial ?_
    refine WpOps.consG rfl rfl (WpO.putT (cs' := cGTok (GTok.mk (0 : Int) ([] : List UInt8) (0 : Int) (0 : Int) (0 : Int) false)) (v := (AV.agg (cGTok (GTok.mk (0 : Int) ([] : List UInt8) (0 : Int) (0 : Int) (0 : Int) false)))) rfl rfl hH (i := 1) rfl rfl rfl rfl rfl rfl rfl fun H' hH => ?_)
    refine WpOps.pn 1 rfl trivial ?_
    refine WpOps.nil ?_
    refine WpC.lose (i := 0) hH rfl (fun H' hH => ?_)
    refine WpC.lose (i := 1) hH rfl (fun H' hH => ?_)
    refine WpC.lose (i := 1) hH rfl (fun H' hH => ?_)
    obtain rfl := Sh.some_inj h
    refine WpC.ret ?_
    have hr := hH
    obtain ⟨_, hle_1, hx_1⟩ := hH.lose_ (i := 0) rfl
    exact VEnds.retG rfl (.cell rfl (hH.cell (i := 0) rfl) rfl rfl (.tmp rfl .nil)) ⟨_, _, Up.drop hle_1 _, rfl, hx_1⟩
  ·
    replace h := Sh.ite_neg hb h
    refine WpC.skipD ?_
    refine ⟨_, Heap.le_refl _, ?_⟩
    refine WpC.seqDI (fun H => H g_4 = some (.cells 44 (cGTok r_1.1)) ∧ H g_3 = some (.cells 44 (cGTok (GTok.mk (0 : Int) ([] : List UInt8) (0 : Int) (0 : Int) (0 : Int) false))) ∧ H g_2 = some (.cells 44 (cGTok b_1)) ∧ Glob H ∧ True) [.I, .I, .I, .I, .I, .E, .I, .E] [0, 1, 2, 3, 4, 5, 6, 7] (by kernel_rfl) (by kernel_rfl) ⟨hH.cell (i := 0) rfl, hH.cell (i := 1) rfl, hH.cell (i := 2) rfl, hG.up hH, trivial⟩ ?_
    refine WpPi.pn 1 rfl trivial ?_
    refine WpPi.consV (v := (iA r_1.1.kind)) rfl rfl rfl rfl (fun _ hi => Exact.load rfl rfl hi.1 rfl rfl) ?_
    refine WpPi.pn 1 rfl trivial ?_
    refine WpPi.consV (v := (sA r_1.1.text)) rfl rfl rfl rfl (fun _ hi => Exact.load rfl rfl hi.1 rfl rfl) ?_
    refine WpPi.pn 1 rfl trivial ?_
    refine WpPi.consF rfl rfl rfl rfl (WpO.putT (cs' := cGTok (GTok.mk r_1.1.kind a_1.text a_1.file_ a_1.from_ a_1.to a_1.blank)) (v := (iA r_1.1.kind)) rfl rfl hH (i := 3) rfl rfl rfl rfl rfl rfl rfl fun H' hH => ⟨⟨hH.cell (i := 0) rfl, hH.cell (i := 1) rfl, hH.cell (i := 2) rfl, hG.up hH, trivial⟩, ?_⟩)
    refine WpPi.pn 1 rfl trivial ?_
    refine WpPi.consF rfl rfl rfl rfl (WpO.putT (cs' := cGTok (GTok.mk r_1.1.kind r_1.1.text a_1.file_ a_1.from_ a_1.to a_1.blank)) (v := (sA r_1.1.text)) rfl rfl hH (i := 3) rfl rfl rfl rfl rfl rfl rfl fun H' hH => ⟨⟨hH.cell (i := 0) rfl, hH.cell (i := 1) rfl, hH.cell (i := 2) rfl, hG.up hH, trivial⟩, ?_⟩)
    refine WpPi.nil ?_
    refine WpC.seqR ?_
    refine WpOps.consE (v := (AV.agg (cGTok (GTok.mk r_1.1.kind r_1.1.text a_1.file_ a_1.from_ a_1.to a_1.blank)))) rfl rfl (Exact.load rfl rfl (hH.cell (i := 3) rfl) rfl rfl) ?_
    refine WpOps.consG rfl rfl (WpO.putT (cs' := cGTok (GTok.mk r_1.1.kind r_1.1.text a_1.file_ a_1.from_ a_1.to a_1.blank)) (v := (AV.agg (cGTok (GTok.mk r_1.1.kind r_1.1.text a_1.file_ a_1.from_ a_1.to a_1.blank)))) rfl rfl hH (i := 1) rfl rfl rfl rfl rfl rfl rfl fun H' hH => ?_)
    refine WpOps.pn 1 rfl trivial ?_
    refine WpOps.nil ?_
    refine WpC.lose (i := 0) hH rfl (fun H' hH => ?_)
    refine WpC.lose (i := 1) hH rfl (fun H' hH => ?_)
    refine WpC.lose (i := 1) hH rfl (fun H' hH => ?_)
    obtain rfl := Sh.some_inj h
    refine WpC.ret ?_
    have hr := hH
    obtain ⟨_, hle_2, hx_2⟩ := hH.lose_ (i := 0) rfl
    exact VEnds.retG rfl (.cell rfl (hH.cell (i := 0) rfl) rfl rfl (.tmp rfl .nil)) ⟨_, _, Up.drop hle_2 _, rfl, hx_2⟩

theorem w_glue_Unquote {H0 : Heap} {s_1 : List UInt8} {r : List UInt8 × Bool} (h : glue_Unquote s_1 = some r) : TCall Tryd.prog 31 [(sA s_1)] H0 (fun v H' => v = (.tup [(sA r.1), (bA r.2)]) ∧ H' = H0) noE := by
  refine id (TCall.body Tryd.func31 rfl rfl ?_)
  have hH : Holds H0 [] H0 := rfl
  refine WpC.seqR ?_
  refine WpOps.pn 2 rfl trivial ?_
  refine WpOps.nil ?_
  refine WpC.seq ?_
  refine WpC.seqR ?_
  refine WpOps.pn 3 rfl trivial ?_
  obtain ⟨b_1, g_1, h⟩ := Sh.bind_some h
  refine WpOps.cutB 5 12 (bA b_1) rfl ?_ ?_
  ·
    refine WpOps.pn 1 rfl trivial ?_
    refine WpOps.split 8 rfl (fun hb => ?_) (fun hb => ?_)
    ·
      replace g_1 := Sh.ite_pos hb g_1
      refine WpOps.pn 4 rfl trivial ?_
      refine WpOps.nil ?_
      obtain rfl := Sh.some_inj g_1
      exact ⟨rfl, rfl⟩
    ·
      replace g_1 := Sh.ite_neg hb g_1
      obtain ⟨ch_1, hch_1, g_1⟩ := Sh.bind_some g_1
      refine WpOps.pn 1 rfl trivial ?_
      refine WpOps.consE (v := (u8A ch_1)) rfl rfl (Exact.ixs hch_1 rfl rfl rfl rfl) ?_
      refine WpOps.pn 2 rfl trivial ?_
      refine WpOps.nil ?_
      obtain rfl := Sh.some_inj g_1
      exact ⟨rfl, rfl⟩
  intro env
  obtain ⟨b_2, g_2, h⟩ := Sh.bind_some h
  refine WpOps.cutB 8 20 (bA b_2) rfl ?_ ?_
  ·
    refine WpOps.pn 1 rfl trivial ?_
    refine WpOps.split 13 rfl (fun hb => ?_) (fun hb => ?_)
    ·
      replace g_2 := Sh.ite_pos hb g_2
      refine WpOps.pn 7 rfl trivial ?_
      refine WpOps.nil ?_
      obtain rfl := Sh.some_inj g_2
      exact ⟨rfl, rfl⟩
    ·
      replace g_2 := Sh.ite_neg hb g_2
      obtain ⟨c_1, g_2⟩ := Sh.chk_some g_2
      obtain ⟨ch_2, hch_2, g_2⟩ := Sh.bind_some g_2
      refine WpOps.pn 4 rfl c_1 ?_
      refine WpOps.consE (v := (u8A ch_2)) rfl rfl (Exact.ixs hch_2 rfl rfl rfl rfl) ?_
      refine WpOps.pn 2 rfl trivial ?_
      refine WpOps.nil ?_
      obtain rfl := Sh.some_inj g_2
      exact ⟨rfl, rfl⟩
  intro env
  refine WpOps.nil ?_
  refine WpC.condB rfl (fun hb => ?_) (fun hb => ?_)
  ·
    replace h := Sh.ite_pos hb h
    refine WpC.seqR ?_
    refine WpOps.pn 2 rfl trivial ?_
    refine WpOps.nil ?_
    obtain rfl := Sh.some_inj h
    refine WpC.ret ?_
    exact VEnds.ret2 rfl rfl rfl ⟨rfl, hH⟩
  ·
    replace h := Sh.ite_neg hb h
    refine WpC.skipD ?_
    refine ⟨_, Heap.le_refl _, ?_⟩
    refine WpC.seqR ?_
    refine WpOps.pn 1 rfl trivial ?_
    have hH := hH.nil 5 1
    refine WpOps.nil ?_
    refine WpC.seq ?_
    refine WpC.seqR ?_
    obtain ⟨c_2, h⟩ := Sh.chk_some h
    obtain ⟨c_3, h⟩ := Sh.chk_some h
    refine WpOps.pn 4 rfl c_2 ?_
    refine WpOps.pn 1 rfl (show 0 ≤ (1 : Int) ∧ 0 ≤ ((s_1.length : Int) - (1 : Int)) ∧ (((1 : Int)).toNat ≤ (((s_1.length : Int) - (1 : Int))).toNat ∧ (((s_1.length : Int) - (1 : Int))).toNat ≤ s_1.length) from ⟨(by omega), (by omega), (by omega)⟩) ?_
    refine WpOps.pn 1 rfl trivial ?_
    refine WpOps.nil ?_
    refine WpC.blockK (fun x : (List UInt8) × ((Option (Nat × Nat))) => [(4, (.own (List.map cU x.1).length x.2))]) (fun x H' => glue_Unquote_j1 x.1 = some r ∧ Holds H0 [.own 5 1 x.2 (List.map cU x.1)] H') ?_ ?_
    ·
      obtain ⟨o_1, ho_1, hk_1⟩ := Sh.bind_some h
      refine WpC.loopS glue_Unquote_b2 (fun (s : List UInt8 × List UInt8) (a : (Option (Nat × Nat))) => [(0, (sA s.1)), (4, (.own (List.map cU s.2).length a))]) (fun (s : List UInt8 × List UInt8) (a : (Option (Nat × Nat))) H' => Holds H0 [.own 5 1 a (List.map cU s.2)] H') o_1 (((s_1.drop ((1 : Int)).toNat).take ((((s_1.length : Int) - (1 : Int))).toNat - ((1 : Int)).toNat)), ([] : List UInt8)) none ho_1 ⟨rfl, rfl, trivial⟩ hH ?_
      rintro ⟨s_2, out_1⟩ p_1 st_1 env H' h hd_1 hH
      refine WpC.seq ?_
      refine WpC.seqR ?_
      refine WpOps.pn 2 rfl trivial ?_
      refine WpOps.nil ?_
      refine WpC.condB rfl (fun hb => ?_) (fun hb => ?_)
      ·
        replace h := Sh.ite_pos hb h
        refine WpC.skipD ?_
        refine ⟨_, Heap.le_refl _, ?_⟩
        refine WpC.seq ?_
        refine WpC.block ?_
        refine WpC.seq ?_
        refine WpC.seqR ?_
        obtain ⟨ch_3, hch_3, h⟩ := Sh.bind_some h
        refine WpOps.pn 1 rfl trivial ?_
        refine WpOps.consE (v := (u8A ch_3)) rfl rfl (Exact.ixs hch_3 rfl rfl rfl rfl) ?_
        refine WpOps.pn 1 rfl trivial ?_
        refine WpOps.nil ?_
        refine WpC.condB rfl (fun hb => ?_) (fun hb => ?_)
        ·
          replace h := Sh.ite_pos hb h
          refine WpC.seqR ?_
          refine WpOps.pn 2 rfl trivial ?_
          refine WpOps.nil ?_
          refine WpC.lose (i := 0) hH rfl (fun H' hH => ?_)
          obtain rfl := Sh.some_inj h
          have e := hd_1 _ rfl
          subst e
          have h := hk_1
          obtain rfl := Sh.some_inj h
          refine WpC.ret ?_
          exact VEnds.ret2 rfl rfl rfl ⟨rfl, hH⟩
        ·
          replace h := Sh.ite_neg hb h
          refine WpC.skipD ?_
          refine ⟨_, Heap.le_refl _, ?_⟩
          refine WpC.seqK (fun x : (List UInt8) × (Unit) => [(0, (sA x.1)), (4, (.own (List.map cU out_1).length p_1))]) (fun x H' => (glue_Unquote_j3 out_1) x.1 = some st_1 ∧ Holds H0 [.own 5 1 p_1 (List.map cU out_1)] H') ?_ ?_
          ·
            refine WpC.seqR ?_
            obtain ⟨ch_4, hch_4, h⟩ := Sh.bind_some h
            refine WpOps.pn 1 rfl trivial ?_
            refine WpOps.consE (v := (u8A ch_4)) rfl rfl (Exact.ixs hch_4 rfl rfl rfl rfl) ?_
            refine WpOps.pn 1 rfl trivial ?_
            refine WpOps.nil ?_
            refine WpC.condB rfl (fun hb => ?_) (fun hb => ?_)
            ·
              replace h := Sh.ite_pos hb h
              refine WpC.seqR ?_
              obtain ⟨c_4, h⟩ := Sh.chk_some h
              refine WpOps.pn 1 rfl trivial ?_
              refine WpOps.pn 1 rfl (show 0 ≤ (1 : Int) ∧ True ∧ ((1 : Int)).toNat ≤ s_2.length from ⟨(by omega), trivial, (by omega)⟩) ?_
              refine WpOps.pn 1 rfl trivial ?_
              refine WpOps.nil ?_
              refine WpC.seqR ?_
              refine WpOps.pn 2 rfl trivial ?_
              refine WpOps.nil ?_
              refine WpC.condB rfl (fun hb => ?_) (fun hb => ?_)
              ·
                replace h := Sh.ite_pos hb h
                refine WpC.seqR ?_
                refine WpOps.pn 2 rfl trivial ?_
                refine WpOps.nil ?_
                refine WpC.lose (i := 0) hH rfl (fun H' hH => ?_)
                obtain rfl := Sh.some_inj h
                have e := hd_1 _ rfl
                subst e
                have h := hk_1
                obtain rfl := Sh.some_inj h
                refine WpC.ret ?_
                exact VEnds.ret2 rfl rfl rfl ⟨rfl, hH⟩
              ·
                replace h := Sh.ite_neg hb h
                refine WpC.skipD ?_
                exact ⟨_, (Heap.le_refl _), ((s_2.drop ((1 : Int)).toNat), ()), ⟨rfl, rfl, trivial⟩, h, hH⟩
            ·
              replace h := Sh.ite_neg hb h
              refine WpC.skipD ?_
              exact ⟨_, (Heap.le_refl _), (s_2, ()), ⟨rfl, rfl, trivial⟩, h, hH⟩
          ·
            rintro ⟨s_3, _⟩ env H' ⟨h, hH⟩
            try dsimp only at h
            refine WpC.regionD ?_
            obtain ⟨ch_5, hch_5, h⟩ := Sh.bind_some h
            refine WpOps.pn 2 rfl trivial ?_
            refine WpOps.consE (v := (u8A ch_5)) rfl rfl (Exact.ixs hch_5 rfl rfl rfl rfl) ?_
            refine WpOps.consE (v := (AV.rows 1 (List.map cU ([ch_5] : List UInt8)))) rfl rfl (Exact.litSlice rfl (by kernel_rfl)) ?_
            obtain ⟨c_5, h⟩ := Sh.chk_some h
            refine WpOps.consG rfl rfl (WpO.pushT cU out_1 ([ch_5] : List UInt8) (i := 0) rfl ek78 hH rfl rfl rfl (.rows _) (fun y _ => one_cU y) (by simp) c_5 (by decide) fun p_2 H' hH => ?_)
            refine WpOps.pn 1 rfl trivial ?_
            refine WpOps.nil ?_
            refine ⟨_, Heap.le_refl _, ?_⟩
            refine WpC.regionD ?_
            obtain ⟨c_6, h⟩ := Sh.chk_some h
            refine WpOps.pn 1 rfl trivial ?_
            refine WpOps.pn 1 rfl (show 0 ≤ (1 : Int) ∧ True ∧ ((1 : Int)).toNat ≤ s_3.length from ⟨(by omega), trivial, (by omega)⟩) ?_
            refine WpOps.pn 1 rfl trivial ?_
            refine WpOps.nil ?_
            obtain rfl := Sh.some_inj h
            exact ⟨_, (Heap.le_refl _), ((s_3.drop ((1 : Int)).toNat), (out_1 ++ ([ch_5] : List UInt8))), p_2, rfl, ⟨rfl, rfl, trivial⟩, hH⟩
      ·
        replace h := Sh.ite_neg hb h
        obtain rfl := Sh.some_inj h
        have e := hd_1 _ rfl
        subst e
        refine WpC.exit ?_
        exact ⟨(out_1, p_1), ⟨rfl, trivial⟩, hk_1, hH⟩
    ·
      rintro ⟨out_2, p_3⟩ env H' ⟨h, hH⟩
      try dsimp only at h
      refine ⟨_, Heap.le_refl _, ?_⟩
      refine WpC.seqR ?_
      refine WpOps.pn 1 rfl trivial ?_
      refine WpOps.consE (v := (sA out_2)) rfl rfl (Exact.string_of_bytes (bs := out_2) rfl rfl rfl rfl rfl (hH.src (i := 0) rfl)) ?_
      refine WpOps.pn 2 rfl trivial ?_
      refine WpOps.nil ?_
      refine WpC.lose (i := 0) hH rfl (fun H' hH => ?_)
      obtain rfl := Sh.some_inj h
      refine WpC.ret ?_
      exact VEnds.ret2 rfl rfl rfl ⟨rfl, hH⟩

theorem w_emendlaw07_awake {H0 : Heap} (hG : Glob H0)  {r : Bool} (h : emendlaw07_awake  = some r) : TCall Tryd.prog 24 [] H0 (fun v H' => v = (bA r) ∧ H' = H0) noE := by
  refine id (TCall.body Tryd.func24 rfl rfl ?_)
  have hH : Holds H0 [] H0 := rfl
  refine WpC.seqR ?_
  refine WpOps.pn 1 rfl trivial ?_
  refine WpOps.nil ?_
  refine WpC.seqR ?_
  obtain ⟨r_1, hr_1, h⟩ := Sh.bind_some h
  refine WpOps.consE (v := (AV.rows 6 (List.map cGTok r_1))) rfl rfl (Exact.call rfl rfl rfl (w_pptok_Tokens (hG.up hH) hr_1)) ?_
  obtain ⟨r_2, hr_2, h⟩ := Sh.bind_some h
  refine WpOps.consE (v := (sA r_2)) rfl rfl (Exact.call rfl rfl rfl (w_glue_Text hr_2)) ?_
  refine WpOps.pn 1 rfl trivial ?_
  refine WpOps.nil ?_
  refine WpC.seqR ?_
  obtain ⟨r_3, hr_3, h⟩ := Sh.bind_some h
  refine WpOps.consE (v := (AV.rows 6 (List.map cGTok r_3))) rfl rfl (Exact.call rfl rfl rfl (w_pptok_Tokens (hG.up hH) hr_3)) ?_
  obtain ⟨r_4, hr_4, h⟩ := Sh.bind_some h
  refine WpOps.consE (v := (sA r_4)) rfl rfl (Exact.call rfl rfl rfl (w_glue_Text hr_4)) ?_
  refine WpOps.pn 1 rfl trivial ?_
  refine WpOps.nil ?_
  refine WpC.seqR ?_
  obtain ⟨r_5, hr_5, h⟩ := Sh.bind_some h
  refine WpOps.consE (v := (AV.rows 6 (List.map cGTok r_5))) rfl rfl (Exact.call rfl rfl rfl (w_pptok_Tokens (hG.up hH) hr_5)) ?_
  obtain ⟨r_6, hr_6, h⟩ := Sh.bind_some h
  refine WpOps.consE (v := (AV.agg (cGTok r_6))) rfl rfl (Exact.call rfl rfl rfl (w_glue_String (hG.up hH) hr_6)) ?_
  refine WpOps.consG rfl rfl (WpO.allocT (z := cGTok (GTok.mk (0 : Int) ([] : List UInt8) (0 : Int) (0 : Int) (0 : Int) false)) rfl rfl hH fun g_1 H' hH => ?_)
  refine WpOps.consG rfl rfl (WpO.putT (cs' := cGTok r_6) (v := (AV.agg (cGTok r_6))) rfl rfl hH (i := 0) rfl rfl rfl rfl rfl rfl rfl fun H' hH => ?_)
  refine WpOps.nil ?_
  refine WpC.seqR ?_
  obtain ⟨r_7, hr_7, h⟩ := Sh.bind_some h
  refine WpOps.consE (v := (AV.rows 6 (List.map cGTok r_7))) rfl rfl (Exact.call rfl rfl rfl (w_pptok_Tokens (hG.up hH) hr_7)) ?_
  refine WpOps.pn 1 rfl trivial ?_
  refine WpOps.nil ?_
  refine WpC.seq ?_
  refine WpC.seqR ?_
  refine WpOps.pn 2 rfl trivial ?_
  refine WpOps.at 27 (len_map _ _) ?_
  refine WpOps.pn 1 rfl trivial ?_
  refine WpOps.nil ?_
  refine WpC.condB rfl (fun hb => ?_) (fun hb => ?_)
  ·
    replace h := Sh.ite_pos hb h
    refine WpC.seqR ?_
    refine WpOps.pn 1 rfl trivial ?_
    refine WpOps.nil ?_
    refine WpC.lose (i := 0) hH rfl (fun H' hH => ?_)
    obtain rfl := Sh.some_inj h
    refine WpC.ret ?_
    exact VEnds.ret1 rfl rfl ⟨rfl, hH⟩
  ·
    replace h := Sh.ite_neg hb h
    refine WpC.skipD ?_
    refine ⟨_, Heap.le_refl _, ?_⟩
    refine WpC.seqDI (fun H => H g_1 = some (.cells 44 (cGTok r_6)) ∧ Glob H ∧ True) [.I, .I, .I, .I, .I, .I, .I, .I, .I, .I, .E, .E] [0, 1, 2, 3, 4, 5, 6, 7, 8, 9, 10, 11, 12] (by kernel_rfl) (by kernel_rfl) ⟨hH.cell (i := 0) rfl, hG.up hH, trivial⟩ ?_
    obtain ⟨y_1, hy_1, h⟩ := Sh.bind_some h
    refine WpPi.pn 1 rfl trivial ?_
    refine WpPi.consI (v := (.rop (cGTok y_1))) rfl rfl rfl rfl (fun _ => Exact.ixr cGTok hy_1 rfl rfl rfl rfl (by kernel_rfl) (by decide)) ?_
    refine WpPi.consI (v := (AV.agg (cGTok y_1))) rfl rfl rfl rfl (fun _ => Exact.load_rop rfl rfl rfl) ?_
    obtain ⟨y_2, hy_2, h⟩ := Sh.bind_some h
    refine WpPi.pn 1 rfl trivial ?_
    refine WpPi.consI (v := (.rop (cGTok y_2))) rfl rfl rfl rfl (fun _ => Exact.ixr cGTok hy_2 rfl rfl rfl rfl (by kernel_rfl) (by decide)) ?_
    refine WpPi.consI (v := (AV.agg (cGTok y_2))) rfl rfl rfl rfl (fun _ => Exact.load_rop rfl rfl rfl) ?_
    obtain ⟨r_8, hr_8, h⟩ := Sh.bind_some h
    refine WpPi.consV (v := (.tup [(AV.agg (cGTok r_8.1)), (iA r_8.2)])) rfl rfl rfl rfl (fun _ hi => Exact.call rfl rfl rfl (w_glue_Paste hi.2.1 hr_8)) ?_
    refine WpPi.pn 3 rfl trivial ?_
    refine WpPi.consF rfl rfl rfl rfl (WpO.allocT (z := cGTok (GTok.mk (0 : Int) ([] : List UInt8) (0 : Int) (0 : Int) (0 : Int) false)) rfl rfl hH fun g_2 H' hH => ⟨⟨hH.cell (i := 1) rfl, hG.up hH, trivial⟩, ?_⟩)
    refine WpPi.consF rfl rfl rfl rfl (WpO.putT (cs' := cGTok r_8.1) (v := (AV.agg (cGTok r_8.1))) rfl rfl hH (i := 0) rfl rfl rfl rfl rfl rfl rfl fun H' hH => ⟨⟨hH.cell (i := 1) rfl, hG.up hH, trivial⟩, ?_⟩)
    refine WpPi.pn 1 rfl trivial ?_
    refine WpPi.nil ?_
    refine WpC.seqDI (fun H => H g_2 = some (.cells 44 (cGTok r_8.1)) ∧ H g_1 = some (.cells 44 (cGTok r_6)) ∧ Glob H ∧ True) [.I, .I, .I, .I, .I, .I, .I, .I, .I, .I, .E, .E] [0, 1, 2, 3, 4, 5, 6, 7, 8, 9, 10, 11, 12] (by kernel_rfl) (by kernel_rfl) ⟨hH.cell (i := 0) rfl, hH.cell (i := 1) rfl, hG.up hH, trivial⟩ ?_
    obtain ⟨y_3, hy_3, h⟩ := Sh.bind_some h
    refine WpPi.pn 1 rfl trivial ?_
    refine WpPi.consI (v := (.rop (cGTok y_3))) rfl rfl rfl rfl (fun _ => Exact.ixr cGTok hy_3 rfl rfl rfl rfl (by kernel_rfl) (by decide)) ?_
    refine WpPi.consI (v := (AV.agg (cGTok y_3))) rfl rfl rfl rfl (fun _ => Exact.load_rop rfl rfl rfl) ?_
    obtain ⟨y_4, hy_4, h⟩ := Sh.bind_some h
    refine WpPi.pn 1 rfl trivial ?_
    refine WpPi.consI (v := (.rop (cGTok y_4))) rfl rfl rfl rfl (fun _ => Exact.ixr cGTok hy_4 rfl rfl rfl rfl (by kernel_rfl) (by decide)) ?_
    refine WpPi.consI (v := (AV.agg (cGTok y_4))) rfl rfl rfl rfl (fun _ => Exact.load_rop rfl rfl rfl) ?_
    obtain ⟨r_9, hr_9, h⟩ := Sh.bind_some h
    refine WpPi.consV (v := (.tup [(AV.agg (cGTok r_9.1)), (iA r_9.2)])) rfl rfl rfl rfl (fun _ hi => Exact.call rfl rfl rfl (w_glue_Paste hi.2.2.1 hr_9)) ?_
    refine WpPi.pn 3 rfl trivial ?_
    refine WpPi.consF rfl rfl rfl rfl (WpO.allocT (z := cGTok (GTok.mk (0 : Int) ([] : List UInt8) (0 : Int) (0 : Int) (0 : Int) false)) rfl rfl hH fun g_3 H' hH => ⟨⟨hH.cell (i := 1) rfl, hH.cell (i := 2) rfl, hG.up hH, trivial⟩, ?_⟩)
    refine WpPi.consF rfl rfl rfl rfl (WpO.putT (cs' := cGTok r_9.1) (v := (AV.agg (cGTok r_9.1))) rfl rfl hH (i := 0) rfl rfl rfl rfl rfl rfl rfl fun H' hH => ⟨⟨hH.cell (i := 1) rfl, hH.cell (i := 2) rfl, hG.up hH, trivial⟩, ?_⟩)
    refine WpPi.pn 1 rfl trivial ?_
    refine WpPi.nil ?_
    refine WpC.seqDI (fun H => H g_3 = some (.cells 44 (cGTok r_9.1)) ∧ H g_2 = some (.cells 44 (cGTok r_8.1)) ∧ H g_1 = some (.cells 44 (cGTok r_6)) ∧ Glob H ∧ True) [.I, .I, .I, .I, .I, .I, .I, .I, .I, .I, .E, .E] [0, 1, 2, 3, 4, 5, 6, 7, 8, 9, 10, 11, 12] (by kernel_rfl) (by kernel_rfl) ⟨hH.cell (i := 0) rfl, hH.cell (i := 1) rfl, hH.cell (i := 2) rfl, hG.up hH, trivial⟩ ?_
    obtain ⟨y_5, hy_5, h⟩ := Sh.bind_some h
    refine WpPi.pn 1 rfl trivial ?_
    refine WpPi.consI (v := (.rop (cGTok y_5))) rfl rfl rfl rfl (fun _ => Exact.ixr cGTok hy_5 rfl rfl rfl rfl (by kernel_rfl) (by decide)) ?_
    refine WpPi.consI (v := (AV.agg (cGTok y_5))) rfl rfl rfl rfl (fun _ => Exact.load_rop rfl rfl rfl) ?_
    obtain ⟨y_6, hy_6, h⟩ := Sh.bind_some h
    refine WpPi.pn 1 rfl trivial ?_
    refine WpPi.consI (v := (.rop (cGTok y_6))) rfl rfl rfl rfl (fun _ => Exact.ixr cGTok hy_6 rfl rfl rfl rfl (by kernel_rfl) (by decide)) ?_
    refine WpPi.consI (v := (AV.agg (cGTok y_6))) rfl rfl rfl rfl (fun _ => Exact.load_rop rfl rfl rfl) ?_
    obtain ⟨r_10, hr_10, h⟩ := Sh.bind_some h
    refine WpPi.consV (v := (.tup [(AV.agg (cGTok r_10.1)), (iA r_10.2)])) rfl rfl rfl rfl (fun _ hi => Exact.call rfl rfl rfl (w_glue_Paste hi.2.2.2.1 hr_10)) ?_
    refine WpPi.pn 3 rfl trivial ?_
    refine WpPi.consF rfl rfl rfl rfl (WpO.allocT (z := cGTok (GTok.mk (0 : Int) ([] : List UInt8) (0 : Int) (0 : Int) (0 : Int) false)) rfl rfl hH fun g_4 H' hH => ⟨⟨hH.cell (i := 1) rfl, hH.cell (i := 2) rfl, hH.cell (i := 3) rfl, hG.up hH, trivial⟩, ?_⟩)
    refine WpPi.consF rfl rfl rfl rfl (WpO.putT (cs' := cGTok r_10.1) (v := (AV.agg (cGTok r_10.1))) rfl rfl hH (i := 0) rfl rfl rfl rfl rfl rfl rfl fun H' hH => ⟨⟨hH.cell (i := 1) rfl, hH.cell (i := 2) rfl, hH.cell (i := 3) rfl, hG.up hH, trivial⟩, ?_⟩)
    refine WpPi.pn 1 rfl trivial ?_
    refine WpPi.nil ?_
    refine WpC.seqDI (fun H => H g_4 = some (.cells 44 (cGTok r_10.1)) ∧ H g_3 = some (.cells 44 (cGTok r_9.1)) ∧ H g_2 = some (.cells 44 (cGTok r_8.1)) ∧ H g_1 = some (.cells 44 (cGTok r_6)) ∧ Glob H ∧ True) [.I, .I, .I, .I, .I, .I, .I, .I, .I, .I, .E, .E] [0, 1, 2, 3, 4, 5, 6, 7, 8, 9, 10, 11, 12] (by kernel_rfl) (by kernel_rfl) ⟨hH.cell (i := 0) rfl, hH.cell (i := 1) rfl, hH.cell (i := 2) rfl, hH.cell (i := 3) rfl, hG.up hH, trivial⟩ ?_
    obtain ⟨y_7, hy_7, h⟩ := Sh.bind_some h
    refine WpPi.pn 1 rfl trivial ?_
    refine WpPi.consI (v := (.rop (cGTok y_7))) rfl rfl rfl rfl (fun _ => Exact.ixr cGTok hy_7 rfl rfl rfl rfl (by kernel_rfl) (by decide)) ?_
    refine WpPi.consI (v := (AV.agg (cGTok y_7))) rfl rfl rfl rfl (fun _ => Exact.load_rop rfl rfl rfl) ?_
    obtain ⟨y_8, hy_8, h⟩ := Sh.bind_some h
    refine WpPi.pn 1 rfl trivial ?_
    refine WpPi.consI (v := (.rop (cGTok y_8))) rfl rfl rfl rfl (fun _ => Exact.ixr cGTok hy_8 rfl rfl rfl rfl (by kernel_rfl) (by decide)) ?_
    refine WpPi.consI (v := (AV.agg (cGTok y_8))) rfl rfl rfl rfl (fun _ => Exact.load_rop rfl rfl rfl) ?_
    obtain ⟨r_11, hr_11, h⟩ := Sh.bind_some h
    refine WpPi.consV (v := (.tup [(AV.agg (cGTok r_11.1)), (iA r_11.2)])) rfl rfl rfl rfl (fun _ hi => Exact.call rfl rfl rfl (w_glue_Paste hi.2.2.2.2.1 hr_11)) ?_
    refine WpPi.pn 3 rfl trivial ?_
    refine WpPi.consF rfl rfl rfl rfl (WpO.allocT (z := cGTok (GTok.mk (0 : Int) ([] : List UInt8) (0 : Int) (0 : Int) (0 : Int) false)) rfl rfl hH fun g_5 H' hH => ⟨⟨hH.cell (i := 1) rfl, hH.cell (i := 2) rfl, hH.cell (i := 3) rfl, hH.cell (i := 4) rfl, hG.up hH, trivial⟩, ?_⟩)
    refine WpPi.consF rfl rfl rfl rfl (WpO.putT (cs' := cGTok r_11.1) (v := (AV.agg (cGTok r_11.1))) rfl rfl hH (i := 0) rfl rfl rfl rfl rfl rfl rfl fun H' hH => ⟨⟨hH.cell (i := 1) rfl, hH.cell (i := 2) rfl, hH.cell (i := 3) rfl, hH.cell (i := 4) rfl, hG.up hH, trivial⟩, ?_⟩)
    refine WpPi.pn 1 rfl trivial ?_
    refine WpPi.nil ?_
    refine WpC.seqR ?_
    obtain ⟨r_12, hr_12, h⟩ := Sh.bind_some h
    refine WpOps.consE (v := (.tup [(sA r_12.1), (bA r_12.2)])) rfl rfl (Exact.call rfl rfl rfl (w_glue_Unquote hr_12)) ?_
    refine WpOps.pn 5 rfl trivial ?_
    refine WpOps.nil ?_
    refine WpC.seqR ?_
    obtain ⟨r_13, hr_13, h⟩ := Sh.bind_some h
    refine WpOps.consE (v := (.tup [(sA r_13.1), (bA r_13.2)])) rfl rfl (Exact.call rfl rfl rfl (w_glue_Unquote hr_13)) ?_
    refine WpOps.pn 5 rfl trivial ?_
    refine WpOps.nil ?_
    refine WpC.seqR ?_
    obtain ⟨r_14, hr_14, h⟩ := Sh.bind_some h
    refine WpOps.consE (v := (.tup [(sA r_14.1), (bA r_14.2)])) rfl rfl (Exact.call rfl rfl rfl (w_glue_Unquote hr_14)) ?_
    refine WpOps.pn 5 rfl trivial ?_
    refine WpOps.nil ?_
    refine WpC.seqR ?_
    refine WpOps.pn 2 rfl trivial ?_
    obtain ⟨b_1, g_6, h⟩ := Sh.bind_some h
    refine WpOps.cutB 4 86 (bA b_1) rfl ?_ ?_
    ·
      refine WpOps.pn 1 rfl trivial ?_
      refine WpOps.split 83 rfl (fun hb => ?_) (fun hb => ?_)
      ·
        replace g_6 := Sh.ite_pos hb g_6
        refine WpOps.pn 3 rfl trivial ?_
        refine WpOps.nil ?_
        obtain rfl := Sh.some_inj g_6
        exact ⟨rfl, rfl⟩
      ·
        replace g_6 := Sh.ite_neg hb g_6
        refine WpOps.pn 3 rfl trivial ?_
        refine WpOps.nil ?_
        obtain rfl := Sh.some_inj g_6
        exact ⟨rfl, rfl⟩
    intro env
    obtain ⟨b_2, g_7, h⟩ := Sh.bind_some h
    refine WpOps.cutB 5 91 (bA b_2) rfl ?_ ?_
    ·
      refine WpOps.pn 1 rfl trivial ?_
      refine WpOps.split 87 rfl (fun hb => ?_) (fun hb => ?_)
      ·
        replace g_7 := Sh.ite_pos hb g_7
        refine WpOps.pn 1 rfl trivial ?_
        refine WpOps.consE (v := (sA r_6.text)) rfl rfl (Exact.load rfl rfl (hH.cell (i := 4) rfl) rfl rfl) ?_
        refine WpOps.pn 2 rfl trivial ?_
        refine WpOps.nil ?_
        obtain rfl := Sh.some_inj g_7
        exact ⟨rfl, rfl⟩
      ·
        replace g_7 := Sh.ite_neg hb g_7
        refine WpOps.pn 4 rfl trivial ?_
        refine WpOps.nil ?_
        obtain rfl := Sh.some_inj g_7
        exact ⟨rfl, rfl⟩
    intro env
    obtain ⟨b_3, g_8, h⟩ := Sh.bind_some h
    refine WpOps.cutB 5 96 (bA b_3) rfl ?_ ?_
    ·
      refine WpOps.pn 1 rfl trivial ?_
      refine WpOps.split 92 rfl (fun hb => ?_) (fun hb => ?_)
      ·
        replace g_8 := Sh.ite_pos hb g_8
        refine WpOps.pn 1 rfl trivial ?_
        refine WpOps.consE (v := (iA r_6.kind)) rfl rfl (Exact.load rfl rfl (hH.cell (i := 4) rfl) rfl rfl) ?_
        refine WpOps.pn 2 rfl trivial ?_
        refine WpOps.nil ?_
        obtain rfl := Sh.some_inj g_8
        exact ⟨rfl, rfl⟩
      ·
        replace g_8 := Sh.ite_neg hb g_8
        refine WpOps.pn 4 rfl trivial ?_
        refine WpOps.nil ?_
        obtain rfl := Sh.some_inj g_8
        exact ⟨rfl, rfl⟩
    intro env
    obtain ⟨b_4, g_9, h⟩ := Sh.bind_some h
    refine WpOps.cutB 5 101 (bA b_4) rfl ?_ ?_
    ·
      refine WpOps.pn 1 rfl trivial ?_
      refine WpOps.split 97 rfl (fun hb => ?_) (fun hb => ?_)
      ·
        replace g_9 := Sh.ite_pos hb g_9
        refine WpOps.pn 1 rfl trivial ?_
        refine WpOps.consE (v := (sA r_8.1.text)) rfl rfl (Exact.load rfl rfl (hH.cell (i := 3) rfl) rfl rfl) ?_
        refine WpOps.pn 2 rfl trivial ?_
        refine WpOps.nil ?_
        obtain rfl := Sh.some_inj g_9
        exact ⟨rfl, rfl⟩
      ·
        replace g_9 := Sh.ite_neg hb g_9
        refine WpOps.pn 4 rfl trivial ?_
        refine WpOps.nil ?_
        obtain rfl := Sh.some_inj g_9
        exact ⟨rfl, rfl⟩
    intro env
    obtain ⟨b_5, g_10, h⟩ := Sh.bind_some h
    refine WpOps.cutB 5 106 (bA b_5) rfl ?_ ?_
    ·
      refine WpOps.pn 1 rfl trivial ?_
      refine WpOps.split 102 rfl (fun hb => ?_) (fun hb => ?_)
      ·
        replace g_10 := Sh.ite_pos hb g_10
        refine WpOps.pn 1 rfl trivial ?_
        refine WpOps.consE (v := (iA r_8.1.kind)) rfl rfl (Exact.load rfl rfl (hH.cell (i := 3) rfl) rfl rfl) ?_
        refine WpOps.pn 2 rfl trivial ?_
        refine WpOps.nil ?_
        obtain rfl := Sh.some_inj g_10
        exact ⟨rfl, rfl⟩
      ·
        replace g_10 := Sh.ite_neg hb g_10
        refine WpOps.pn 4 rfl trivial ?_
        refine WpOps.nil ?_
        obtain rfl := Sh.some_inj g_10
        exact ⟨rfl, rfl⟩
    intro env
    obtain ⟨b_6, g_11, h⟩ := Sh.bind_some h
    refine WpOps.cutB 4 110 (bA b_6) rfl ?_ ?_
    ·
      refine WpOps.pn 1 rfl trivial ?_
      refine WpOps.split 107 rfl (fun hb => ?_) (fun hb => ?_)
      ·
        replace g_11 := Sh.ite_pos hb g_11
        refine WpOps.pn 3 rfl trivial ?_
        refine WpOps.nil ?_
        obtain rfl := Sh.some_inj g_11
        exact ⟨rfl, rfl⟩
      ·
        replace g_11 := Sh.ite_neg hb g_11
        refine WpOps.pn 3 rfl trivial ?_
        refine WpOps.nil ?_
        obtain rfl := Sh.some_inj g_11
        exact ⟨rfl, rfl⟩
    intro env
    obtain ⟨b_7, g_12, h⟩ := Sh.bind_some h
    refine WpOps.cutB 5 115 (bA b_7) rfl ?_ ?_
    ·
      refine WpOps.pn 1 rfl trivial ?_
      refine WpOps.split 111 rfl (fun hb => ?_) (fun hb => ?_)
      ·
        replace g_12 := Sh.ite_pos hb g_12
        refine WpOps.pn 1 rfl trivial ?_
        refine WpOps.consE (v := (sA r_9.1.text)) rfl rfl (Exact.load rfl rfl (hH.cell (i := 2) rfl) rfl rfl) ?_
        refine WpOps.pn 2 rfl trivial ?_
        refine WpOps.nil ?_
        obtain rfl := Sh.some_inj g_12
        exact ⟨rfl, rfl⟩
      ·
        replace g_12 := Sh.ite_neg hb g_12
        refine WpOps.pn 4 rfl trivial ?_
        refine WpOps.nil ?_
        obtain rfl := Sh.some_inj g_12
        exact ⟨rfl, rfl⟩
    intro env
    obtain ⟨b_8, g_13, h⟩ := Sh.bind_some h
    refine WpOps.cutB 4 119 (bA b_8) rfl ?_ ?_
    ·
      refine WpOps.pn 1 rfl trivial ?_
      refine WpOps.split 116 rfl (fun hb => ?_) (fun hb => ?_)
      ·
        replace g_13 := Sh.ite_pos hb g_13
        refine WpOps.pn 3 rfl trivial ?_
        refine WpOps.nil ?_
        obtain rfl := Sh.some_inj g_13
        exact ⟨rfl, rfl⟩
      ·
        replace g_13 := Sh.ite_neg hb g_13
        refine WpOps.pn 3 rfl trivial ?_
        refine WpOps.nil ?_
        obtain rfl := Sh.some_inj g_13
        exact ⟨rfl, rfl⟩
    intro env
    obtain ⟨b_9, g_14, h⟩ := Sh.bind_some h
    refine WpOps.cutB 4 123 (bA b_9) rfl ?_ ?_
    ·
      refine WpOps.pn 1 rfl trivial ?_
      refine WpOps.split 120 rfl (fun hb => ?_) (fun hb => ?_)
      ·
        replace g_14 := Sh.ite_pos hb g_14
        refine WpOps.pn 3 rfl trivial ?_
        refine WpOps.nil ?_
        obtain rfl := Sh.some_inj g_14
        exact ⟨rfl, rfl⟩
      ·
        replace g_14 := Sh.ite_neg hb g_14
        refine WpOps.pn 3 rfl trivial ?_
        refine WpOps.nil ?_
        obtain rfl := Sh.some_inj g_14
        exact ⟨rfl, rfl⟩
    intro env
    obtain ⟨b_10, g_15, h⟩ := Sh.bind_some h
    refine WpOps.cutB 4 127 (bA b_10) rfl ?_ ?_
    ·
      refine WpOps.pn 1 rfl trivial ?_
      refine WpOps.split 124 rfl (fun hb => ?_) (fun hb => ?_)
      ·
        replace g_15 := Sh.ite_pos hb g_15
        refine WpOps.pn 3 rfl trivial ?_
        refine WpOps.nil ?_
        obtain rfl := Sh.some_inj g_15
        exact ⟨rfl, rfl⟩
      ·
        replace g_15 := Sh.ite_neg hb g_15
        refine WpOps.pn 3 rfl trivial ?_
        refine WpOps.nil ?_
        obtain rfl := Sh.some_inj g_15
        exact ⟨rfl, rfl⟩
    intro env
    obtain ⟨b_11, g_16, h⟩ := Sh.bind_some h
    refine WpOps.cutB 4 131 (bA b_11) rfl ?_ ?_
    ·
      refine WpOps.pn 1 rfl trivial ?_
      refine WpOps.split 128 rfl (fun hb => ?_) (fun hb => ?_)
      ·
        replace g_16 := Sh.ite_pos hb g_16
        refine WpOps.pn 3 rfl trivial ?_
        refine WpOps.nil ?_
        obtain rfl := Sh.some_inj g_16
        exact ⟨rfl, rfl⟩
      ·
        replace g_16 := Sh.ite_neg hb g_16
        refine WpOps.pn 3 rfl trivial ?_
        refine WpOps.nil ?_
        obtain rfl := Sh.some_inj g_16
        exact ⟨rfl, rfl⟩
    intro env
    obtain ⟨b_12, g_17, h⟩ := Sh.bind_some h
    refine WpOps.cutB 3 134 (bA b_12) rfl ?_ ?_
    ·
      refine WpOps.pn 1 rfl trivial ?_
      refine WpOps.split 132 rfl (fun hb => ?_) (fun hb => ?_)
      ·
        replace g_17 := Sh.ite_pos hb g_17
        refine WpOps.pn 2 rfl trivial ?_
        refine WpOps.nil ?_
        obtain rfl := Sh.some_inj g_17
        exact ⟨rfl, rfl⟩
      ·
        replace g_17 := Sh.ite_neg hb g_17
        refine WpOps.pn 2 rfl trivial ?_
        refine WpOps.nil ?_
        obtain rfl := Sh.some_inj g_17
        exact ⟨rfl, rfl⟩
    intro env
    obtain ⟨b_13, g_18, h⟩ := Sh.bind_some h
    refine WpOps.cutB 4 138 (bA b_13) rfl ?_ ?_
    ·
      refine WpOps.pn 1 rfl trivial ?_
      refine WpOps.split 135 rfl (fun hb => ?_) (fun hb => ?_)
      ·
        replace g_18 := Sh.ite_pos hb g_18
        refine WpOps.pn 3 rfl trivial ?_
        refine WpOps.nil ?_
        obtain rfl := Sh.some_inj g_18
        exact ⟨rfl, rfl⟩
      ·
        replace g_18 := Sh.ite_neg hb g_18
        refine WpOps.pn 3 rfl trivial ?_
        refine WpOps.nil ?_
        obtain rfl := Sh.some_inj g_18
        exact ⟨rfl, rfl⟩
    intro env
    obtain ⟨b_14, g_19, h⟩ := Sh.bind_some h
    refine WpOps.cutB 4 142 (bA b_14) rfl ?_ ?_
    ·
      refine WpOps.pn 1 rfl trivial ?_
      refine WpOps.split 139 rfl (fun hb => ?_) (fun hb => ?_)
      ·
        replace g_19 := Sh.ite_pos hb g_19
        refine WpOps.pn 3 rfl trivial ?_
        refine WpOps.nil ?_
        obtain rfl := Sh.some_inj g_19
        exact ⟨rfl, rfl⟩
      ·
        replace g_19 := Sh.ite_neg hb g_19
        refine WpOps.pn 3 rfl trivial ?_
        refine WpOps.nil ?_
        obtain rfl := Sh.some_inj g_19
        exact ⟨rfl, rfl⟩
    intro env
    refine WpOps.pn 1 rfl trivial ?_
    refine WpOps.nil ?_
    refine WpC.lose (i := 0) hH rfl (fun H' hH => ?_)
    refine WpC.lose (i := 0) hH rfl (fun H' hH => ?_)
    refine WpC.lose (i := 0) hH rfl (fun H' hH => ?_)
    refine WpC.lose (i := 0) hH rfl (fun H' hH => ?_)
    refine WpC.lose (i := 0) hH rfl (fun H' hH => ?_)
    obtain rfl := Sh.some_inj h
    refine WpC.ret ?_
    exact VEnds.ret1 rfl rfl ⟨rfl, hH⟩

theorem w_emendref07_escaped {H0 : Heap} {t_1 : GTok} {r : List UInt8} (h : emendref07_escaped t_1 = some r) : TCall Tryd.prog 53 [(AV.agg (cGTok t_1))] H0 (fun v H' => v = (sA r) ∧ H' = H0) noE := by
  refine id (TCall.body Tryd.func53 rfl rfl ?_)
  have hH : Holds H0 [] H0 := rfl
  refine WpC.seqR ?_
  refine WpOps.consG rfl rfl (WpO.boxT (v := (AV.agg (cGTok t_1))) rfl rfl hH fun g_1 H' hH => ?_)
  refine WpOps.pn 1 rfl trivial ?_
  refine WpOps.nil ?_
  refine WpC.seqR ?_
  refine WpOps.pn 1 rfl trivial ?_
  refine WpOps.nil ?_
  refine WpC.seq ?_
  refine WpC.seqR ?_
  refine WpOps.pn 1 rfl trivial ?_
  refine WpOps.nil ?_
  refine WpC.blockK (fun x : (List UInt8) × (Unit) => [(3, (sA x.1))]) (fun x H' => emendref07_escaped_j1 x.1 = some r ∧ Holds H0 [] H') ?_ ?_
  ·
    obtain ⟨o_1, ho_1, hk_1⟩ := Sh.bind_some h
    refine WpC.loopS (emendref07_escaped_b2 t_1) (fun (s : List UInt8 × Int) (a : Unit) => [(1, (.lit (.pointer (some ⟨g_1, 0, none⟩)))), (3, (sA s.1)), (4, (iA s.2))]) (fun (s : List UInt8 × Int) (a : Unit) H' => Holds H0 [.cell g_1 44 (cGTok t_1)] H') o_1 (([] : List UInt8), (0 : Int)) () ho_1 ⟨rfl, rfl, rfl, trivial⟩ hH ?_
    rintro ⟨s_1, i_1⟩ _ st_1 env H' h hd_1 hH
    refine WpC.seq ?_
    refine WpC.seqR ?_
    refine WpOps.pn 2 rfl trivial ?_
    refine WpOps.consE (v := (sA t_1.text)) rfl rfl (Exact.load rfl rfl (hH.cell (i := 0) rfl) rfl rfl) ?_
    refine WpOps.pn 2 rfl trivial ?_
    refine WpOps.nil ?_
    refine WpC.condB rfl (fun hb => ?_) (fun hb => ?_)
    ·
      replace h := Sh.ite_pos hb h
      refine WpC.skipD ?_
      refine ⟨_, Heap.le_refl _, ?_⟩
      refine WpC.seq ?_
      refine WpC.block ?_
      refine WpC.seqR ?_
      refine WpOps.pn 1 rfl trivial ?_
      refine WpOps.consE (v := (sA t_1.text)) rfl rfl (Exact.load rfl rfl (hH.cell (i := 0) rfl) rfl rfl) ?_
      obtain ⟨ch_1, hch_1, h⟩ := Sh.bind_some h
      refine WpOps.pn 1 rfl trivial ?_
      refine WpOps.consE (v := (u8A ch_1)) rfl rfl (Exact.ixs hch_1 rfl rfl rfl rfl) ?_
      refine WpOps.pn 1 rfl trivial ?_
      refine WpOps.nil ?_
      refine WpC.seqK (fun x : (List UInt8) × (Unit) => [(1, (.lit (.pointer (some ⟨g_1, 0, none⟩)))), (3, (sA x.1)), (4, (iA i_1)), (5, (u8A ch_1))]) (fun x H' => (emendref07_escaped_j3 i_1 ch_1) x.1 = some st_1 ∧ Holds H0 [.cell g_1 44 (cGTok t_1)] H') ?_ ?_
      ·
        refine WpC.seqR ?_
        refine WpOps.pn 2 rfl trivial ?_
        obtain ⟨b_1, g_2, h⟩ := Sh.bind_some h
        refine WpOps.cutB 4 22 (bA b_1) rfl ?_ ?_
        ·
          refine WpOps.pn 1 rfl trivial ?_
          refine WpOps.split 19 rfl (fun hb => ?_) (fun hb => ?_)
          ·
            replace g_2 := Sh.ite_pos hb g_2
            refine WpOps.pn 3 rfl trivial ?_
            refine WpOps.nil ?_
            obtain rfl := Sh.some_inj g_2
            exact ⟨rfl, rfl⟩
          ·
            replace g_2 := Sh.ite_neg hb g_2
            refine WpOps.pn 3 rfl trivial ?_
            refine WpOps.nil ?_
            obtain rfl := Sh.some_inj g_2
            exact ⟨rfl, rfl⟩
        intro env
        obtain ⟨b_2, g_3, h⟩ := Sh.bind_some h
        refine WpOps.cutB 10 32 (bA b_2) rfl ?_ ?_
        ·
          refine WpOps.pn 1 rfl trivial ?_
          refine WpOps.split 23 rfl (fun hb => ?_) (fun hb => ?_)
          ·
            replace g_3 := Sh.ite_pos hb g_3
            refine WpOps.pn 1 rfl trivial ?_
            refine WpOps.consE (v := (iA t_1.kind)) rfl rfl (Exact.load rfl rfl (hH.cell (i := 0) rfl) rfl rfl) ?_
            refine WpOps.pn 1 rfl trivial ?_
            obtain ⟨b_3, g_4, g_3⟩ := Sh.bind_some g_3
            refine WpOps.cutB 5 31 (bA b_3) rfl ?_ ?_
            ·
              refine WpOps.pn 1 rfl trivial ?_
              refine WpOps.split 27 rfl (fun hb => ?_) (fun hb => ?_)
              ·
                replace g_4 := Sh.ite_pos hb g_4
                refine WpOps.pn 4 rfl trivial ?_
                refine WpOps.nil ?_
                obtain rfl := Sh.some_inj g_4
                exact ⟨rfl, rfl⟩
              ·
                replace g_4 := Sh.ite_neg hb g_4
                refine WpOps.pn 1 rfl trivial ?_
                refine WpOps.consE (v := (iA t_1.kind)) rfl rfl (Exact.load rfl rfl (hH.cell (i := 0) rfl) rfl rfl) ?_
                refine WpOps.pn 2 rfl trivial ?_
                refine WpOps.nil ?_
                obtain rfl := Sh.some_inj g_4
                exact ⟨rfl, rfl⟩
            intro env
            refine WpOps.pn 1 rfl trivial ?_
            refine WpOps.nil ?_
            obtain rfl := Sh.some_inj g_3
            exact ⟨rfl, rfl⟩
          ·
            replace g_3 := Sh.ite_neg hb g_3
            refine WpOps.pn 9 rfl trivial ?_
            refine WpOps.nil ?_
            obtain rfl := Sh.some_inj g_3
            exact ⟨rfl, rfl⟩
        intro env
        refine WpOps.nil ?_
        refine WpC.condB rfl (fun hb => ?_) (fun hb => ?_)
        ·
          replace h := Sh.ite_pos hb h
          refine WpC.regionD ?_
          refine WpOps.pn 1 rfl trivial ?_
          refine WpOps.consE (v := (AV.rows 1 (List.map cU ([(92 : UInt8)] : List UInt8)))) rfl rfl (Exact.litSlice rfl (by kernel_rfl)) ?_
          refine WpOps.consE (v := (sA ([(92 : UInt8)] : List UInt8))) rfl rfl (Exact.string_of_bytes (bs := ([(92 : UInt8)] : List UInt8)) rfl rfl rfl rfl rfl (.rows _)) ?_
          obtain ⟨c_1, h⟩ := Sh.chk_some h
          refine WpOps.pn 2 rfl c_1 ?_
          refine WpOps.nil ?_
          exact ⟨_, (Heap.le_refl _), ((s_1 ++ ([(92 : UInt8)] : List UInt8)), ()), ⟨rfl, rfl, rfl, rfl, trivial⟩, h, hH⟩
        ·
          replace h := Sh.ite_neg hb h
          refine WpC.skipD ?_
          exact ⟨_, (Heap.le_refl _), (s_1, ()), ⟨rfl, rfl, rfl, rfl, trivial⟩, h, hH⟩
      ·
        rintro ⟨s_2, _⟩ env H' ⟨h, hH⟩
        try dsimp only at h
        refine WpC.regionD ?_
        refine WpOps.pn 2 rfl trivial ?_
        refine WpOps.consE (v := (AV.rows 1 (List.map cU ([ch_1] : List UInt8)))) rfl rfl (Exact.litSlice rfl (by kernel_rfl)) ?_
        refine WpOps.consE (v := (sA ([ch_1] : List UInt8))) rfl rfl (Exact.string_of_bytes (bs := ([ch_1] : List UInt8)) rfl rfl rfl rfl rfl (.rows _)) ?_
        obtain ⟨c_2, h⟩ := Sh.chk_some h
        refine WpOps.pn 2 rfl c_2 ?_
        refine WpOps.nil ?_
        refine ⟨_, Heap.le_refl _, ?_⟩
        refine WpC.regionD ?_
        obtain ⟨c_3, h⟩ := Sh.chk_some h
        refine WpOps.pn 3 rfl c_3 ?_
        refine WpOps.nil ?_
        obtain rfl := Sh.some_inj h
        exact ⟨_, (Heap.le_refl _), ((s_2 ++ ([ch_1] : List UInt8)), (i_1 + (1 : Int))), (), rfl, ⟨rfl, rfl, rfl, trivial⟩, hH⟩
    ·
      replace h := Sh.ite_neg hb h
      refine WpC.lose (i := 0) hH rfl (fun H' hH => ?_)
      obtain rfl := Sh.some_inj h
      have e := hd_1 _ rfl
      subst e
      refine WpC.exit ?_
      exact ⟨(s_1, ()), ⟨rfl, trivial⟩, hk_1, hH⟩
  ·
    rintro ⟨s_3, _⟩ env H' ⟨h, hH⟩
    try dsimp only at h
    refine ⟨_, Heap.le_refl _, ?_⟩
    refine WpC.seqR ?_
    refine WpOps.pn 2 rfl trivial ?_
    refine WpOps.nil ?_
    obtain rfl := Sh.some_inj h
    refine WpC.ret ?_
    exact VEnds.ret1 rfl rfl ⟨rfl, hH⟩

theorem w_emendref07_Text {H0 : Heap} {l_1 : List GTok} {quoted_1 : Bool} {r : List UInt8} (h : emendref07_Text l_1 quoted_1 = some r) : TCall Tryd.prog 27 [(AV.rows 6 (List.map cGTok l_1)), (bA quoted_1)] H0 (fun v H' => v = (sA r) ∧ H' = H0) noE := by
  refine id (TCall.body Tryd.func27 rfl rfl ?_)
  have hH : Holds H0 [] H0 := rfl
  refine WpC.seqR ?_
  refine WpOps.pn 1 rfl trivial ?_
  refine WpOps.nil ?_
  refine WpC.seqR ?_
  refine WpOps.pn 1 rfl trivial ?_
  refine WpOps.nil ?_
  refine WpC.seqR ?_
  refine WpOps.pn 1 rfl trivial ?_
  refine WpOps.nil ?_
  refine WpC.seq ?_
  refine WpC.seqR ?_
  refine WpOps.pn 1 rfl trivial ?_
  refine WpOps.nil ?_
  refine WpC.blockK (fun x : (List UInt8) × (Unit) => [(5, (sA x.1))]) (fun x H' => emendref07_Text_j1 x.1 = some r ∧ Holds H0 [] H') ?_ ?_
  ·
    obtain ⟨o_1, ho_1, hk_1⟩ := Sh.bind_some h
    refine WpC.loopS (emendref07_Text_b2 l_1 quoted_1) (fun (s : List UInt8 × Int × Int) (a : Unit) => [(0, (AV.rows 6 (List.map cGTok l_1))), (1, (bA quoted_1)), (5, (sA s.1)), (6, (iA s.2.1)), (7, (iA s.2.2))]) (fun (s : List UInt8 × Int × Int) (a : Unit) H' => Holds H0 [] H') o_1 (([] : List UInt8), (-1 : Int), (0 : Int)) () ho_1 ⟨rfl, rfl, rfl, rfl, rfl, trivial⟩ hH ?_
    rintro ⟨s_1, last_1, i_1⟩ _ st_1 env H' h hd_1 hH
    refine WpC.seq ?_
    refine WpC.seqR ?_
    refine WpOps.pn 3 rfl trivial ?_
    refine WpOps.at 10 (len_map _ _) ?_
    refine WpOps.pn 1 rfl trivial ?_
    refine WpOps.nil ?_
    refine WpC.condB rfl (fun hb => ?_) (fun hb => ?_)
    ·
      replace h := Sh.ite_pos hb h
      refine WpC.skipD ?_
      refine ⟨_, Heap.le_refl _, ?_⟩
      refine WpC.seq ?_
      refine WpC.block ?_
      refine WpC.seq ?_
      refine WpC.seqR ?_
      obtain ⟨y_1, hy_1, h⟩ := Sh.bind_some h
      refine WpOps.pn 2 rfl trivial ?_
      refine WpOps.consE (v := (.rop (cGTok y_1))) rfl rfl (Exact.ixr cGTok hy_1 rfl rfl rfl rfl (by kernel_rfl) (by decide)) ?_
      refine WpOps.pn 1 rfl trivial ?_
      refine WpOps.consE (v := (iA y_1.kind)) rfl rfl (Exact.load_rop rfl rfl rfl) ?_
      refine WpOps.pn 1 rfl trivial ?_
      refine WpOps.nil ?_
      refine WpC.condB rfl (fun hb => ?_) (fun hb => ?_)
      ·
        replace h := Sh.ite_pos hb h
        refine WpC.exitD ?_
        refine ⟨_, Heap.le_refl _, ?_⟩
        refine WpC.regionD ?_
        obtain ⟨c_1, h⟩ := Sh.chk_some h
        refine WpOps.pn 3 rfl c_1 ?_
        refine WpOps.nil ?_
        obtain rfl := Sh.some_inj h
        exact ⟨_, (Heap.le_refl _), (s_1, last_1, (i_1 + (1 : Int))), (), rfl, ⟨rfl, rfl, rfl, rfl, rfl, trivial⟩, hH⟩
      ·
        replace h := Sh.ite_neg hb h
        refine WpC.skipD ?_
        refine ⟨_, Heap.le_refl _, ?_⟩
        refine WpC.seqK (fun x : (List UInt8) × (Unit) => [(0, (AV.rows 6 (List.map cGTok l_1))), (1, (bA quoted_1)), (5, (sA x.1)), (7, (iA i_1))]) (fun x H' => (emendref07_Text_j3 l_1 quoted_1 i_1) x.1 = some st_1 ∧ Holds H0 [] H') ?_ ?_
        ·
          refine WpC.seqR ?_
          refine WpOps.pn 2 rfl trivial ?_
          obtain ⟨b_1, g_1, h⟩ := Sh.bind_some h
          refine WpOps.cutB 13 34 (bA b_1) rfl ?_ ?_
          ·
            refine WpOps.pn 1 rfl trivial ?_
            refine WpOps.split 22 rfl (fun hb => ?_) (fun hb => ?_)
            ·
              replace g_1 := Sh.ite_pos hb g_1
              obtain ⟨y_2, hy_2, g_1⟩ := Sh.bind_some g_1
              refine WpOps.pn 2 rfl trivial ?_
              refine WpOps.consE (v := (.rop (cGTok y_2))) rfl rfl (Exact.ixr cGTok hy_2 rfl rfl rfl rfl (by kernel_rfl) (by decide)) ?_
              refine WpOps.pn 1 rfl trivial ?_
              refine WpOps.consE (v := (bA y_2.blank)) rfl rfl (Exact.load_rop rfl rfl rfl) ?_
              obtain ⟨b_2, g_2, g_1⟩ := Sh.bind_some g_1
              refine WpOps.cutB 6 33 (bA b_2) rfl ?_ ?_
              ·
                refine WpOps.pn 1 rfl trivial ?_
                refine WpOps.split 28 rfl (fun hb => ?_) (fun hb => ?_)
                ·
                  replace g_2 := Sh.ite_pos hb g_2
                  refine WpOps.pn 5 rfl trivial ?_
                  refine WpOps.nil ?_
                  obtain rfl := Sh.some_inj g_2
                  exact ⟨rfl, rfl⟩
                ·
                  replace g_2 := Sh.ite_neg hb g_2
                  obtain ⟨c_2, g_2⟩ := Sh.chk_some g_2
                  refine WpOps.pn 5 rfl c_2 ?_
                  refine WpOps.nil ?_
                  obtain rfl := Sh.some_inj g_2
                  exact ⟨rfl, rfl⟩
              intro env
              refine WpOps.pn 1 rfl trivial ?_
              refine WpOps.nil ?_
              obtain rfl := Sh.some_inj g_1
              exact ⟨rfl, rfl⟩
            ·
              replace g_1 := Sh.ite_neg hb g_1
              refine WpOps.pn 12 rfl trivial ?_
              refine WpOps.nil ?_
              obtain rfl := Sh.some_inj g_1
              exact ⟨rfl, rfl⟩
          intro env
          refine WpOps.nil ?_
          refine WpC.condB rfl (fun hb => ?_) (fun hb => ?_)
          ·
            replace h := Sh.ite_pos hb h
            refine WpC.regionD ?_
            obtain ⟨c_3, h⟩ := Sh.chk_some h
            refine WpOps.pn 3 rfl c_3 ?_
            refine WpOps.nil ?_
            exact ⟨_, (Heap.le_refl _), ((s_1 ++ ([32] : List UInt8)), ()), ⟨rfl, rfl, rfl, rfl, trivial⟩, h, hH⟩
          ·
            replace h := Sh.ite_neg hb h
            refine WpC.skipD ?_
            exact ⟨_, (Heap.le_refl _), (s_1, ()), ⟨rfl, rfl, rfl, rfl, trivial⟩, h, hH⟩
        ·
          rintro ⟨s_2, _⟩ env H' ⟨h, hH⟩
          try dsimp only at h
          refine WpC.seqR ?_
          refine WpOps.pn 2 rfl trivial ?_
          refine WpOps.nil ?_
          refine WpC.seqR ?_
          refine WpOps.pn 1 rfl trivial ?_
          refine WpOps.nil ?_
          refine WpC.condB rfl (fun hb => ?_) (fun hb => ?_)
          ·
            replace h := Sh.ite_pos hb h
            refine WpC.regionD ?_
            obtain ⟨y_3, hy_3, h⟩ := Sh.bind_some h
            refine WpOps.pn 3 rfl trivial ?_
            refine WpOps.consE (v := (.rop (cGTok y_3))) rfl rfl (Exact.ixr cGTok hy_3 rfl rfl rfl rfl (by kernel_rfl) (by decide)) ?_
            refine WpOps.consE (v := (AV.agg (cGTok y_3))) rfl rfl (Exact.load_rop rfl rfl rfl) ?_
            obtain ⟨r_1, hr_1, h⟩ := Sh.bind_some h
            refine WpOps.consE (v := (sA r_1)) rfl rfl (Exact.call rfl rfl rfl (w_emendref07_escaped hr_1)) ?_
            obtain ⟨c_4, h⟩ := Sh.chk_some h
            refine WpOps.pn 2 rfl c_4 ?_
            refine WpOps.nil ?_
            refine ⟨_, Heap.le_refl _, ?_⟩
            refine WpC.regionD ?_
            obtain ⟨c_5, h⟩ := Sh.chk_some h
            refine WpOps.pn 3 rfl c_5 ?_
            refine WpOps.nil ?_
            obtain rfl := Sh.some_inj h
            exact ⟨_, (Heap.le_refl _), ((s_2 ++ r_1), i_1, (i_1 + (1 : Int))), (), rfl, ⟨rfl, rfl, rfl, rfl, rfl, trivial⟩, hH⟩
          ·
            replace h := Sh.ite_neg hb h
            refine WpC.regionD ?_
            obtain ⟨y_4, hy_4, h⟩ := Sh.bind_some h
            refine WpOps.pn 3 rfl trivial ?_
            refine WpOps.consE (v := (.rop (cGTok y_4))) rfl rfl (Exact.ixr cGTok hy_4 rfl rfl rfl rfl (by kernel_rfl) (by decide)) ?_
            refine WpOps.pn 1 rfl trivial ?_
            refine WpOps.consE (v := (sA y_4.text)) rfl rfl (Exact.load_rop rfl rfl rfl) ?_
            obtain ⟨c_6, h⟩ := Sh.chk_some h
            refine WpOps.pn 2 rfl c_6 ?_
            refine WpOps.nil ?_
            refine ⟨_, Heap.le_refl _, ?_⟩
            refine WpC.regionD ?_
            obtain ⟨c_7, h⟩ := Sh.chk_some h
            refine WpOps.pn 3 rfl c_7 ?_
            refine WpOps.nil ?_
            obtain rfl := Sh.some_inj h
            exact ⟨_, (Heap.le_refl _), ((s_2 ++ y_4.text), i_1, (i_1 + (1 : Int))), (), rfl, ⟨rfl, rfl, rfl, rfl, rfl, trivial⟩, hH⟩
    ·
      replace h := Sh.ite_neg hb h
      obtain rfl := Sh.some_inj h
      have e := hd_1 _ rfl
      subst e
      refine WpC.exit ?_
      exact ⟨(s_1, ()), ⟨rfl, trivial⟩, hk_1, hH⟩
  ·
    rintro ⟨s_3, _⟩ env H' ⟨h, hH⟩
    try dsimp only at h
    refine ⟨_, Heap.le_refl _, ?_⟩
    refine WpC.seqR ?_
    refine WpOps.pn 2 rfl trivial ?_
    refine WpOps.nil ?_
    obtain rfl := Sh.some_inj h
    refine WpC.ret ?_
    exact VEnds.ret1 rfl rfl ⟨rfl, hH⟩

theorem w_emendref07_String {H0 : Heap} {l_1 : List GTok} {r : GTok} (h : emendref07_String l_1 = some r) : TCall Tryd.prog 28 [(AV.rows 6 (List.map cGTok l_1))] H0 (fun v H' => v = (AV.agg (cGTok r)) ∧ H' = H0) noE := by
  refine TCall.up (TCall.body Tryd.func28 rfl rfl ?_)
  have hH : Holds H0 [] H0 := rfl
  refine WpC.seqR ?_
  refine WpOps.consG rfl rfl (WpO.allocT (z := cGTok (GTok.mk (0 : Int) ([] : List UInt8) (0 : Int) (0 : Int) (0 : Int) false)) rfl rfl hH fun g_1 H' hH => ?_)
  refine WpOps.nil ?_
  refine WpC.seqR ?_
  refine WpOps.consE (v := (AV.rows 1 (List.map cU ([(34 : UInt8)] : List UInt8)))) rfl rfl (Exact.litSlice rfl (by kernel_rfl)) ?_
  refine WpOps.consE (v := (sA ([(34 : UInt8)] : List UInt8))) rfl rfl (Exact.string_of_bytes (bs := ([(34 : UInt8)] : List UInt8)) rfl rfl rfl rfl rfl (.rows _)) ?_
  refine WpOps.pn 1 rfl trivial ?_
  refine WpOps.nil ?_
  refine WpC.seqR ?_
  obtain ⟨r_1, hr_1, h⟩ := Sh.bind_some h
  refine WpOps.pn 2 rfl trivial ?_
  refine WpOps.consE (v := (sA r_1)) rfl rfl (Exact.call rfl rfl rfl (w_emendref07_Text hr_1)) ?_
  obtain ⟨c_1, h⟩ := Sh.chk_some h
  obtain ⟨c_2, h⟩ := Sh.chk_some h
  refine WpOps.pn 4 rfl ⟨c_2, c_1⟩ ?_
  refine WpOps.consG rfl rfl (WpO.putT (cs' := cGTok (GTok.mk (4 : Int) ((([(34 : UInt8)] : List UInt8) ++ r_1) ++ ([(34 : UInt8)] : List UInt8)) (0 : Int) (0 : Int) (0 : Int) false)) (v := (AV.agg (cGTok (GTok.mk (4 : Int) ((([(34 : UInt8)] : List UInt8) ++ r_1) ++ ([(34 : UInt8)] : List UInt8)) (0 : Int) (0 : Int) (0 : Int) false)))) rfl rfl hH (i := 0) rfl rfl rfl rfl rfl rfl rfl fun H' hH => ?_)
  refine WpOps.nil ?_
  obtain rfl := Sh.some_inj h
  refine WpC.ret ?_
  have hr := hH
  obtain ⟨_, hle_1, hx_1⟩ := hH.lose_ (i := 0) rfl
  exact VEnds.retG rfl (.cell rfl (hH.cell (i := 0) rfl) rfl rfl .nil) ⟨_, _, Up.drop hle_1 _, rfl, hx_1⟩

theorem w_emendlaw07_GlueTexts {H0 : Heap} (hG : Glob H0) {l_1 : List GTok} {r : Bool} (h : emendlaw07_GlueTexts l_1 = some r) : TCall Tryd.prog 7 [(AV.rows 6 (List.map cGTok l_1))] H0 (fun v H' => v = (bA r) ∧ H' = H0) noE := by
  refine id (TCall.body Tryd.func7 rfl rfl ?_)
  have hH : Holds H0 [] H0 := rfl
  refine WpC.seqR ?_
  refine WpOps.pn 1 rfl trivial ?_
  refine WpOps.nil ?_
  refine WpC.seqR ?_
  obtain ⟨r_1, hr_1, h⟩ := Sh.bind_some h
  refine WpOps.consE (v := (bA r_1)) rfl rfl (Exact.call rfl rfl rfl (w_emendlaw07_awake (hG.up hH) hr_1)) ?_
  refine WpOps.pn 1 rfl trivial ?_
  refine WpOps.nil ?_
  refine WpC.seqR ?_
  obtain ⟨r_2, hr_2, h⟩ := Sh.bind_some h
  refine WpOps.pn 1 rfl trivial ?_
  refine WpOps.consE (v := (sA r_2)) rfl rfl (Exact.call rfl rfl rfl (w_glue_Text hr_2)) ?_
  refine WpOps.pn 1 rfl trivial ?_
  refine WpOps.nil ?_
  refine WpC.seqR ?_
  obtain ⟨r_3, hr_3, h⟩ := Sh.bind_some h
  refine WpOps.pn 1 rfl trivial ?_
  refine WpOps.consE (v := (AV.agg (cGTok r_3))) rfl rfl (Exact.call rfl rfl rfl (w_glue_String (hG.up hH) hr_3)) ?_
  refine WpOps.consG rfl rfl (WpO.allocT (z := cGTok (GTok.mk (0 : Int) ([] : List UInt8) (0 : Int) (0 : Int) (0 : Int) false)) rfl rfl hH fun g_1 H' hH => ?_)
  refine WpOps.consG rfl rfl (WpO.putT (cs' := cGTok r_3) (v := (AV.agg (cGTok r_3))) rfl rfl hH (i := 0) rfl rfl rfl rfl rfl rfl rfl fun H' hH => ?_)
  refine WpOps.nil ?_
  refine WpC.seqD [.I, .I, .I, .I, .I, .I, .I, .I, .S] [0, 1, 2, 3, 4, 5, 6, 7, 8, 9, 10, 11, 12, 13] (by kernel_rfl) (by kernel_rfl) ?_
  refine WpPi.pn 1 rfl trivial ?_
  obtain ⟨b_1, g_2, h⟩ := Sh.bind_some h
  refine WpPi.cutB 6 17 (bA b_1) rfl ?_ ?_
  ·
    refine WpPi.pn 1 rfl trivial ?_
    refine WpPi.split 12 rfl (fun hb => ?_) (fun hb => ?_)
    ·
      replace g_2 := Sh.ite_pos hb g_2
      obtain ⟨r_4, hr_4, g_2⟩ := Sh.bind_some g_2
      refine WpPi.pn 2 rfl trivial ?_
      refine WpPi.consI (v := (sA r_4)) rfl rfl rfl rfl (fun _ => Exact.call rfl rfl rfl (w_emendref07_Text hr_4)) ?_
      refine WpPi.pn 2 rfl trivial ?_
      refine WpPi.nil ?_
      obtain rfl := Sh.some_inj g_2
      exact ⟨rfl, rfl⟩
    ·
      replace g_2 := Sh.ite_neg hb g_2
      refine WpPi.pn 2 rfl trivial ?_
      refine WpPi.skip rfl rfl rfl ?_
      refine WpPi.pn 2 rfl trivial ?_
      refine WpPi.nil ?_
      obtain rfl := Sh.some_inj g_2
      exact ⟨rfl, rfl⟩
  intro env
  obtain ⟨b_2, g_3, h⟩ := Sh.bind_some h
  refine WpPi.cutB 6 23 (bA b_2) rfl ?_ ?_
  ·
    refine WpPi.pn 1 rfl trivial ?_
    refine WpPi.split 18 rfl (fun hb => ?_) (fun hb => ?_)
    ·
      replace g_3 := Sh.ite_pos hb g_3
      refine WpPi.consS (v := (AV.agg (cGTok r_3))) rfl rfl rfl rfl (Exact.load rfl rfl (hH.cell (i := 0) rfl) rfl rfl) ?_
      obtain ⟨r_5, hr_5, g_3⟩ := Sh.bind_some g_3
      refine WpPi.pn 1 rfl trivial ?_
      refine WpPi.consI (v := (AV.agg (cGTok r_5))) rfl rfl rfl rfl (fun _ => Exact.call rfl rfl rfl (w_emendref07_String hr_5)) ?_
      refine WpPi.consI (v := (bA (decide (r_3 = r_5)))) rfl rfl rfl rfl (fun _ => Exact.eqStruct rfl rfl rfl (eqL_GTok r_3 r_5) (by kernel_rfl) rfl (by kernel_rfl)) ?_
      refine WpPi.pn 1 rfl trivial ?_
      refine WpPi.nil ?_
      obtain rfl := Sh.some_inj g_3
      exact ⟨rfl, rfl⟩
    ·
      replace g_3 := Sh.ite_neg hb g_3
      refine WpPi.skip rfl rfl rfl ?_
      refine WpPi.pn 1 rfl trivial ?_
      refine WpPi.skip rfl rfl rfl ?_
      refine WpPi.pn 2 rfl trivial ?_
      refine WpPi.nil ?_
      obtain rfl := Sh.some_inj g_3
      exact ⟨rfl, rfl⟩
  intro env
  refine WpPi.pn 1 rfl trivial ?_
  refine WpPi.nil ?_
  refine WpC.lose (i := 0) hH rfl (fun H' hH => ?_)
  obtain rfl := Sh.some_inj h
  refine WpC.ret ?_
  exact VEnds.ret1 rfl rfl ⟨rfl, hH⟩

theorem w_emendref02_Text {H0 : Heap} {l_1 : List GChar} {r : List UInt8} (h : emendref02_Text l_1 = some r) : TCall Tryd.prog 35 [(AV.rows 2 (List.map cGChar l_1))] H0 (fun v H' => v = (sA r) ∧ H' = H0) noE := by
  refine id (TCall.body Tryd.func35 rfl rfl ?_)
  have hH : Holds H0 [] H0 := rfl
  refine WpC.seqR ?_
  refine WpOps.pn 1 rfl trivial ?_
  refine WpOps.nil ?_
  refine WpC.seqR ?_
  refine WpOps.pn 1 rfl trivial ?_
  refine WpOps.nil ?_
  refine WpC.seq ?_
  refine WpC.seqR ?_
  refine WpOps.pn 1 rfl trivial ?_
  refine WpOps.nil ?_
  refine WpC.blockK (fun x : (List UInt8) × (Unit) => [(3, (sA x.1))]) (fun x H' => emendref02_Text_j1 x.1 = some r ∧ Holds H0 [] H') ?_ ?_
  ·
    obtain ⟨o_1, ho_1, hk_1⟩ := Sh.bind_some h
    refine WpC.loopS (emendref02_Text_b2 l_1) (fun (s : List UInt8 × Int) (a : Unit) => [(0, (AV.rows 2 (List.map cGChar l_1))), (3, (sA s.1)), (4, (iA s.2))]) (fun (s : List UInt8 × Int) (a : Unit) H' => Holds H0 [] H') o_1 (([] : List UInt8), (0 : Int)) () ho_1 ⟨rfl, rfl, rfl, trivial⟩ hH ?_
    rintro ⟨s_1, i_1⟩ _ st_1 env H' h hd_1 hH
    refine WpC.seq ?_
    refine WpC.seqR ?_
    refine WpOps.pn 3 rfl trivial ?_
    refine WpOps.at 7 (len_map _ _) ?_
    refine WpOps.pn 1 rfl trivial ?_
    refine WpOps.nil ?_
    refine WpC.condB rfl (fun hb => ?_) (fun hb => ?_)
    ·
      replace h := Sh.ite_pos hb h
      refine WpC.skipD ?_
      refine ⟨_, Heap.le_refl _, ?_⟩
      refine WpC.seq ?_
      refine WpC.block ?_
      refine WpC.regionD ?_
      obtain ⟨y_1, hy_1, h⟩ := Sh.bind_some h
      refine WpOps.pn 3 rfl trivial ?_
      refine WpOps.consE (v := (.rop (cGChar y_1))) rfl rfl (Exact.ixr cGChar hy_1 rfl rfl rfl rfl (by kernel_rfl) (by decide)) ?_
      refine WpOps.pn 1 rfl trivial ?_
      refine WpOps.consE (v := (u8A y_1.b)) rfl rfl (Exact.load_rop rfl rfl rfl) ?_
      refine WpOps.consE (v := (AV.rows 1 (List.map cU ([y_1.b] : List UInt8)))) rfl rfl (Exact.litSlice rfl (by kernel_rfl)) ?_
      refine WpOps.consE (v := (sA ([y_1.b] : List UInt8))) rfl rfl (Exact.string_of_bytes (bs := ([y_1.b] : List UInt8)) rfl rfl rfl rfl rfl (.rows _)) ?_
      obtain ⟨c_1, h⟩ := Sh.chk_some h
      refine WpOps.pn 2 rfl c_1 ?_
      refine WpOps.nil ?_
      refine ⟨_, Heap.le_refl _, ?_⟩
      refine WpC.regionD ?_
      obtain ⟨c_2, h⟩ := Sh.chk_some h
      refine WpOps.pn 3 rfl c_2 ?_
      refine WpOps.nil ?_
      obtain rfl := Sh.some_inj h
      exact ⟨_, (Heap.le_refl _), ((s_1 ++ ([y_1.b] : List UInt8)), (i_1 + (1 : Int))), (), rfl, ⟨rfl, rfl, rfl, trivial⟩, hH⟩
    ·
      replace h := Sh.ite_neg hb h
      obtain rfl := Sh.some_inj h
      have e := hd_1 _ rfl
      subst e
      refine WpC.exit ?_
      exact ⟨(s_1, ()), ⟨rfl, trivial⟩, hk_1, hH⟩
  ·
    rintro ⟨s_2, _⟩ env H' ⟨h, hH⟩
    try dsimp only at h
    refine ⟨_, Heap.le_refl _, ?_⟩
    refine WpC.seqR ?_
    refine WpOps.pn 2 rfl trivial ?_
    refine WpOps.nil ?_
    obtain rfl := Sh.some_inj h
    refine WpC.ret ?_
    exact VEnds.ret1 rfl rfl ⟨rfl, hH⟩

theorem w_emendref02_Join {H0 : Heap} {text_1 : List UInt8} {r : List GChar} (h : emendref02_Join text_1 = some r) : TCall Tryd.prog 36 [(sA text_1)] H0 (fun v H' => v = (AV.rows 2 (List.map cGChar r)) ∧ H' = H0) noE := by
  refine id (TCall.body Tryd.func36 rfl rfl ?_)
  have hH : Holds H0 [] H0 := rfl
  refine WpC.seqR ?_
  refine WpOps.pn 1 rfl trivial ?_
  refine WpOps.nil ?_
  refine WpC.seqR ?_
  refine WpOps.pn 1 rfl trivial ?_
  have hH := hH.nil 85 2
  refine WpOps.nil ?_
  refine WpC.seqR ?_
  refine WpOps.pn 1 rfl trivial ?_
  refine WpOps.nil ?_
  refine WpC.seqB (fun x : (List GChar) × ((Option (Nat × Nat))) => [(3, (.own (List.map cGChar x.1).length x.2))]) (fun x H' => emendref02_Join_j1 x.1 = some r ∧ Holds H0 [.own 85 2 x.2 (List.map cGChar x.1)] H') ?_ ?_
  ·
    obtain ⟨o_1, ho_1, hk_1⟩ := Sh.bind_some h
    refine WpC.loopS (emendref02_Join_b2 text_1) (fun (s : Int × List GChar) (a : (Option (Nat × Nat))) => [(0, (sA text_1)), (3, (.own (List.map cGChar s.2).length a)), (4, (iA s.1))]) (fun (s : Int × List GChar) (a : (Option (Nat × Nat))) H' => Holds H0 [.own 85 2 a (List.map cGChar s.2)] H') o_1 ((0 : Int), ([] : List GChar)) none ho_1 ⟨rfl, rfl, rfl, trivial⟩ hH ?_
    rintro ⟨i_1, out_1⟩ p_1 st_1 env H' h hd_1 hH
    refine WpC.seq ?_
    refine WpC.seqR ?_
    refine WpOps.pn 4 rfl trivial ?_
    refine WpOps.nil ?_
    refine WpC.condB rfl (fun hb => ?_) (fun hb => ?_)
    ·
      replace h := Sh.ite_pos hb h
      refine WpC.skipD ?_
      refine ⟨_, Heap.le_refl _, ?_⟩
      refine WpC.block ?_
      refine WpC.seq ?_
      refine WpC.seqR ?_
      obtain ⟨ch_1, hch_1, h⟩ := Sh.bind_some h
      refine WpOps.pn 2 rfl trivial ?_
      refine WpOps.consE (v := (u8A ch_1)) rfl rfl (Exact.ixs hch_1 rfl rfl rfl rfl) ?_
      refine WpOps.pn 1 rfl trivial ?_
      obtain ⟨b_1, g_1, h⟩ := Sh.bind_some h
      refine WpOps.cutB 7 19 (bA b_1) rfl ?_ ?_
      ·
        refine WpOps.pn 1 rfl trivial ?_
        refine WpOps.split 13 rfl (fun hb => ?_) (fun hb => ?_)
        ·
          replace g_1 := Sh.ite_pos hb g_1
          obtain ⟨c_1, g_1⟩ := Sh.chk_some g_1
          refine WpOps.pn 6 rfl c_1 ?_
          refine WpOps.nil ?_
          obtain rfl := Sh.some_inj g_1
          exact ⟨rfl, rfl⟩
        ·
          replace g_1 := Sh.ite_neg hb g_1
          refine WpOps.pn 6 rfl trivial ?_
          refine WpOps.nil ?_
          obtain rfl := Sh.some_inj g_1
          exact ⟨rfl, rfl⟩
      intro env
      obtain ⟨b_2, g_2, h⟩ := Sh.bind_some h
      refine WpOps.cutB 7 26 (bA b_2) rfl ?_ ?_
      ·
        refine WpOps.pn 1 rfl trivial ?_
        refine WpOps.split 20 rfl (fun hb => ?_) (fun hb => ?_)
        ·
          replace g_2 := Sh.ite_pos hb g_2
          obtain ⟨c_2, g_2⟩ := Sh.chk_some g_2
          obtain ⟨ch_2, hch_2, g_2⟩ := Sh.bind_some g_2
          refine WpOps.pn 3 rfl c_2 ?_
          refine WpOps.consE (v := (u8A ch_2)) rfl rfl (Exact.ixs hch_2 rfl rfl rfl rfl) ?_
          refine WpOps.pn 2 rfl trivial ?_
          refine WpOps.nil ?_
          obtain rfl := Sh.some_inj g_2
          exact ⟨rfl, rfl⟩
        ·
          replace g_2 := Sh.ite_neg hb g_2
          refine WpOps.pn 6 rfl trivial ?_
          refine WpOps.nil ?_
          obtain rfl := Sh.some_inj g_2
          exact ⟨rfl, rfl⟩
      intro env
      refine WpOps.nil ?_
      refine WpC.condB rfl (fun hb => ?_) (fun hb => ?_)
      ·
        replace h := Sh.ite_pos hb h
        refine WpC.seqR ?_
        obtain ⟨c_3, h⟩ := Sh.chk_some h
        refine WpOps.pn 3 rfl c_3 ?_
        refine WpOps.nil ?_
        refine WpC.exitD ?_
        obtain rfl := Sh.some_inj h
        exact ⟨_, (Heap.le_refl _), ((i_1 + (2 : Int)), out_1), p_1, rfl, ⟨rfl, rfl, rfl, trivial⟩, hH⟩
      ·
        replace h := Sh.ite_neg hb h
        refine WpC.skipD ?_
        refine ⟨_, Heap.le_refl _, ?_⟩
        refine WpC.seqR ?_
        obtain ⟨ch_3, hch_3, h⟩ := Sh.bind_some h
        refine WpOps.pn 3 rfl trivial ?_
        refine WpOps.consE (v := (u8A ch_3)) rfl rfl (Exact.ixs hch_3 rfl rfl rfl rfl) ?_
        refine WpOps.pn 2 rfl trivial ?_
        refine WpOps.consE (v := (AV.rows 2 (List.map cGChar ([(GChar.mk ch_3 i_1)] : List GChar)))) rfl rfl (Exact.litSlice rfl (by kernel_rfl)) ?_
        obtain ⟨c_4, h⟩ := Sh.chk_some h
        refine WpOps.consG rfl rfl (WpO.pushT cGChar out_1 ([(GChar.mk ch_3 i_1)] : List GChar) (i := 0) rfl ek58 hH rfl rfl rfl (.rows _) (fun y _ => one_cGChar y) (by simp) c_4 (by decide) fun p_2 H' hH => ?_)
        refine WpOps.pn 1 rfl trivial ?_
        refine WpOps.nil ?_
        refine WpC.regionD ?_
        obtain ⟨c_5, h⟩ := Sh.chk_some h
        refine WpOps.pn 3 rfl c_5 ?_
        refine WpOps.nil ?_
        obtain rfl := Sh.some_inj h
        exact ⟨_, (Heap.le_refl _), ((i_1 + (1 : Int)), (out_1 ++ ([(GChar.mk ch_3 i_1)] : List GChar))), p_2, rfl, ⟨rfl, rfl, rfl, trivial⟩, hH⟩
    ·
      replace h := Sh.ite_neg hb h
      obtain rfl := Sh.some_inj h
      have e := hd_1 _ rfl
      subst e
      refine WpC.exit ?_
      exact ⟨(out_1, p_1), ⟨rfl, trivial⟩, hk_1, hH⟩
  ·
    rintro ⟨out_2, p_3⟩ env H' ⟨h, hH⟩
    try dsimp only at h
    refine WpC.seqR ?_
    refine WpOps.pn 2 rfl trivial ?_
    refine WpOps.nil ?_
    refine WpC.freeze (t := 2) (i := 0) hH rfl rfl (fun H' hH => ?_)
    obtain rfl := Sh.some_inj h
    refine WpC.ret ?_
    exact VEnds.ret1 rfl rfl ⟨rfl, hH⟩

theorem w_emendref03_is {H0 : Heap} {s_1 : List UInt8} {i_1 : Int} {t_1 : List UInt8} {r : Bool} (h : emendref03_is s_1 i_1 t_1 = some r) : TCall Tryd.prog 84 [(sA s_1), (iA i_1), (sA t_1)] H0 (fun v H' => v = (bA r) ∧ H' = H0) noE := by
  refine id (TCall.body Tryd.func84 rfl rfl ?_)
  have hH : Holds H0 [] H0 := rfl
  refine WpC.seqR ?_
  refine WpOps.pn 1 rfl trivial ?_
  refine WpOps.nil ?_
  refine WpC.seqR ?_
  obtain ⟨c_1, h⟩ := Sh.chk_some h
  refine WpOps.pn 7 rfl c_1 ?_
  obtain ⟨b_1, g_1, h⟩ := Sh.bind_some h
  refine WpOps.cutB 11 24 (bA b_1) rfl ?_ ?_
  ·
    refine WpOps.pn 1 rfl trivial ?_
    refine WpOps.split 14 rfl (fun hb => ?_) (fun hb => ?_)
    ·
      replace g_1 := Sh.ite_pos hb g_1
      obtain ⟨c_2, g_1⟩ := Sh.chk_some g_1
      obtain ⟨c_3, g_1⟩ := Sh.chk_some g_1
      refine WpOps.pn 6 rfl c_2 ?_
      refine WpOps.pn 1 rfl (show 0 ≤ i_1 ∧ 0 ≤ (i_1 + (t_1.length : Int)) ∧ ((i_1).toNat ≤ ((i_1 + (t_1.length : Int))).toNat ∧ ((i_1 + (t_1.length : Int))).toNat ≤ s_1.length) from ⟨(by omega), (by omega), (by omega)⟩) ?_
      refine WpOps.pn 3 rfl trivial ?_
      refine WpOps.nil ?_
      obtain rfl := Sh.some_inj g_1
      exact ⟨rfl, rfl⟩
    ·
      replace g_1 := Sh.ite_neg hb g_1
      refine WpOps.pn 10 rfl trivial ?_
      refine WpOps.nil ?_
      obtain rfl := Sh.some_inj g_1
      exact ⟨rfl, rfl⟩
  intro env
  refine WpOps.pn 1 rfl trivial ?_
  refine WpOps.nil ?_
  obtain rfl := Sh.some_inj h
  refine WpC.ret ?_
  exact VEnds.ret1 rfl rfl ⟨rfl, hH⟩
end Go.Proofs.YtfocleohejljpaaDoor
