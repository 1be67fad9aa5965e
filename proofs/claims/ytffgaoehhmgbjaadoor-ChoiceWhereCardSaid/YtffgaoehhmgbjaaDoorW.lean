/-
  The code computes what the plain functions say. Printed by a tool.
-/
import Derived.Test.YtffgaoehhmgbjaaDoorT
import Derived.Test.YtffgaoehhmgbjaaDoorPe
import Derived.Test.YtffgaoehhmgbjaaDoorChecked
import Derived.Test.YtffgaoehhmgbjaaDoorBu
import Derived.Test.YtffgaoehhmgbjaaDoorLi
import Derived.Test.YtffgaoehhmgbjaaDoorCh
import Derived.Test.YtffgaoehhmgbjaaDoorBw
import Derived.Test.YtffgaoehhmgbjaaDoorCr
import Derived.Test.YtffgaoehhmgbjaaDoorCw
import Derived.Test.YtffgaoehhmgbjaaDoorEx
import Derived.Test.YtffgaoehhmgbjaaDoorDf
set_option linter.unusedVariables false
set_option linter.unusedSimpArgs false
set_option maxRecDepth 20000
set_option maxHeartbeats 8000000
namespace Go.Proofs.YtffgaoehhmgbjaaDoor
open Go Go.Vc Go.Sh
attribute [local irreducible] WpC WpOps WpPi WpO Exact TCall VEnds Sh.loopS DEnds
theorem ek22 : ElemOk Tryd.prog 22 9 1 16 := ElemOk.of (by kernel_rfl)
theorem ek24 : ElemOk Tryd.prog 24 35 1 24 := ElemOk.of (by kernel_rfl)
theorem ek31 : ElemOk Tryd.prog 31 43 7 64 := ElemOk.of (by kernel_rfl)
theorem ek35 : ElemOk Tryd.prog 35 40 6 56 := ElemOk.of (by kernel_rfl)
theorem ek71 : ElemOk Tryd.prog 71 80 2 16 := ElemOk.of (by kernel_rfl)
theorem w_splice_Join {H0 : Heap} {text_1 : List UInt8} {r : List GChar} (h : splice_Join text_1 = some r) : TCall Tryd.prog 33 [(sA text_1)] H0 (fun v H' => v = (AV.rows 2 (List.map cGChar r)) ∧ H' = H0) noE := by
  refine id (TCall.body Tryd.func33 rfl rfl ?_)
  have hH : Holds H0 [] H0 := rfl
  refine WpC.seqR ?_
  refine WpOps.pn 1 rfl trivial ?_
  refine WpOps.nil ?_
  refine WpC.seqR ?_
  refine WpOps.consG rfl rfl (WpO.allocT rfl rfl hH fun g_1 H' hH => ?_)
  have hH := hH.nil 80 2
  refine WpOps.nil ?_
  refine WpC.seq ?_
  refine WpC.seqR ?_
  obtain ⟨it_1, hit_1, h⟩ := Sh.bind_some h
  refine WpOps.pn 1 rfl trivial ?_
  refine WpOps.consG rfl rfl (WpO.callN rfl rfl rfl hH (fun HH => w_chars HH) fun g_2 H' hH => ?_)
  refine WpOps.nil ?_
  refine WpC.block ?_
  obtain ⟨o_1, ho_1, hk_1⟩ := Sh.bind_some h
  refine WpC.rangeS splice_Join_b1 it_1 (fun x : GChar => [AV.agg (cGChar x)]) (fun (s : List GChar) (a : (Option (Nat × Nat))) => [.cell g_2 9 (cS text_1), .own 80 2 a (List.map cGChar s), .cell g_1 71 [.own (List.map cGChar s).length a]]) o_1 ([] : List GChar) none ho_1 rfl rfl (by decide) (by obtain ⟨hl, e⟩ := chars_some hit_1; rw [e]; exact w_chars_c1 hl (Heap.one_at _ _)) (fun _ => rfl) (fun s a H hH => Heap.one_le (hH.cell (i := 0) rfl)) hH ?_ ?_
  ·
    rintro x_1 l_1 p_1 st_1 H' h hd_1 hH
    refine WpC.regionD ?_
    refine WpOps.consG rfl rfl (WpO.allocT (z := cGChar (GChar.mk (0 : UInt8) (0 : Int))) rfl rfl hH fun g_3 H' hH => ?_)
    refine WpOps.consG rfl rfl (WpO.putT (cs' := (cGChar x_1)) (v := (AV.agg (cGChar x_1))) rfl rfl hH (i := 0) rfl rfl rfl rfl rfl rfl rfl fun H' hH => ?_)
    refine WpOps.nil ?_
    refine ⟨_, Heap.le_refl _, ?_⟩
    refine WpC.block ?_
    refine WpC.regionD ?_
    refine WpOps.consE rfl rfl (Exact.load rfl rfl (hH.cell (i := 3) rfl) rfl rfl) ?_
    refine WpOps.consE (v := (AV.agg (cGChar x_1))) rfl rfl (Exact.load rfl rfl (hH.cell (i := 0) rfl) rfl rfl) ?_
    refine WpOps.consE (v := (AV.rows 2 (List.map cGChar ([x_1] : List GChar)))) rfl rfl (Exact.litSlice rfl (by kernel_rfl)) ?_
    obtain ⟨c_1, h⟩ := Sh.chk_some h
    refine WpOps.consG rfl rfl (WpO.pushT cGChar l_1 ([x_1] : List GChar) (i := 2) rfl ek71 hH rfl rfl rfl (.rows _) (fun y _ => one_cGChar y) (by simp) c_1 (by decide) fun p_2 H' hH => ?_)
    refine WpOps.consG rfl rfl (WpO.putT rfl rfl hH (i := 3) rfl rfl rfl rfl rfl rfl rfl fun H' hH => ?_)
    refine WpOps.nil ?_
    obtain ⟨_, hle_1, hH⟩ := hH.lose_ (i := 0) rfl
    obtain rfl := Sh.some_inj h
    exact ⟨_, hle_1, (l_1 ++ ([x_1] : List GChar)), p_2, rfl, hH⟩
  ·
    rintro l_2 p_3 H' rfl hH
    have h := hk_1
    refine WpC.seqR ?_
    refine WpOps.consE rfl rfl (Exact.load rfl rfl (hH.cell (i := 2) rfl) rfl rfl) ?_
    refine WpOps.pn 1 rfl trivial ?_
    refine WpOps.nil ?_
    refine WpC.freeze (t := 2) (i := 1) hH rfl rfl (fun H' hH => ?_)
    refine WpC.lose (i := 0) hH rfl (fun H' hH => ?_)
    refine WpC.lose (i := 0) hH rfl (fun H' hH => ?_)
    obtain rfl := Sh.some_inj h
    refine WpC.ret ?_
    exact VEnds.ret1 rfl rfl ⟨rfl, hH⟩

theorem w_splice_Text {H0 : Heap} {l_1 : List GChar} {r : List UInt8} (h : splice_Text l_1 = some r) : TCall Tryd.prog 34 [(AV.rows 2 (List.map cGChar l_1))] H0 (fun v H' => v = (sA r) ∧ H' = H0) noE := by
  refine id (TCall.body Tryd.func34 rfl rfl ?_)
  have hH : Holds H0 [] H0 := rfl
  refine WpC.seqR ?_
  refine WpOps.pn 1 rfl trivial ?_
  refine WpOps.nil ?_
  refine WpC.seqR ?_
  refine WpOps.pn 2 rfl trivial ?_
  refine WpOps.at 7 (len_map _ _) ?_
  obtain ⟨c_1, h⟩ := Sh.chk_some h
  refine WpOps.consG rfl rfl (WpO.makeT cU (z := (0 : UInt8)) (n := (l_1.length : Int)) c_1 rfl rfl rfl hH rfl rfl rfl rfl (by decide) fun g_1 cp_1 H' hH => ?_)
  refine WpOps.pn 1 rfl trivial ?_
  refine WpOps.nil ?_
  refine WpC.seq ?_
  refine WpC.seqR ?_
  refine WpOps.pn 2 rfl trivial ?_
  refine WpOps.at 10 (len_map _ _) ?_
  refine WpOps.pn 1 rfl trivial ?_
  refine WpOps.nil ?_
  refine WpC.blockK (fun x : (List UInt8) × ((Option (Nat × Nat))) => [(3, (.own (List.map cU x.1).length x.2))]) (fun x H' => splice_Text_j1 x.1 = some r ∧ Holds H0 [.own 5 1 x.2 (List.map cU x.1)] H') ?_ ?_
  ·
    obtain ⟨o_1, ho_1, hk_1⟩ := Sh.bind_some h
    refine WpC.loopS (splice_Text_b2 l_1) (fun (s : Int × List UInt8) (a : (Option (Nat × Nat))) => [(3, (.own (List.map cU s.2).length a)), (9, (AV.rows 2 (List.map cGChar l_1))), (10, (iA (l_1.length : Int))), (11, (iA s.1))]) (fun (s : Int × List UInt8) (a : (Option (Nat × Nat))) H' => Holds H0 [.own 5 1 a (List.map cU s.2)] H') o_1 ((0 : Int), (List.replicate ((l_1.length : Int)).toNat (0 : UInt8))) (some (g_1, cp_1)) ho_1 ⟨rfl, rfl, rfl, rfl, trivial⟩ hH ?_
    rintro ⟨t11_1, b_1⟩ p_1 st_1 env H' h hd_1 hH
    refine WpC.seqR ?_
    refine WpOps.pn 1 rfl trivial ?_
    refine WpOps.nil ?_
    refine WpC.seq ?_
    refine WpC.condB rfl (fun hb => ?_) (fun hb => ?_)
    ·
      replace h := Sh.ite_pos hb h
      refine WpC.skipD ?_
      refine ⟨_, Heap.le_refl _, ?_⟩
      refine WpC.seq ?_
      refine WpC.block ?_
      refine WpC.seqR ?_
      obtain ⟨y_1, hy_1, h⟩ := Sh.bind_some h
      refine WpOps.pn 1 rfl trivial ?_
      refine WpOps.consE (v := (.rop (cGChar y_1))) rfl rfl (Exact.ixr cGChar hy_1 rfl rfl rfl rfl (by kernel_rfl) (by decide)) ?_
      refine WpOps.consE (v := (AV.agg (cGChar y_1))) rfl rfl (Exact.load_rop rfl rfl rfl) ?_
      refine WpOps.consG rfl rfl (WpO.allocT (z := cGChar (GChar.mk (0 : UInt8) (0 : Int))) rfl rfl hH fun g_2 H' hH => ?_)
      refine WpOps.pn 1 rfl trivial ?_
      refine WpOps.consG rfl rfl (WpO.putT (cs' := (cGChar y_1)) (v := (AV.agg (cGChar y_1))) rfl rfl hH (i := 0) rfl rfl rfl rfl rfl rfl rfl fun H' hH => ?_)
      refine WpOps.nil ?_
      refine WpC.regionD ?_
      refine WpOps.pn 3 rfl trivial ?_
      refine WpOps.consE (v := (u8A y_1.b)) rfl rfl (Exact.load rfl rfl (hH.cell (i := 0) rfl) rfl rfl) ?_
      obtain ⟨y_2, hy_2, h⟩ := Sh.bind_some h
      have hq_1 := h; have hq_2 := hH
      obtain ⟨g_3, cp_2, rfl⟩ := hq_2.grown (i := 1) rfl (ne_of_ix hy_2)
      have h := hq_1; have hH := hq_2
      refine WpOps.consE rfl rfl (Exact.ixo (size := 1) cU hy_2 rfl rfl rfl rfl (by kernel_rfl) (by decide)) ?_
      refine WpOps.consG rfl rfl (WpO.setT (off := 0) (i := 1) cU (y' := y_1.b) (v := (u8A y_1.b)) hy_2 hH rfl rfl rfl rfl rfl rfl rfl rfl rfl fun H' hH => ?_)
      refine WpOps.at 3 (own_set cU b_1 (t11_1).toNat y_1.b _) ?_
      refine WpOps.at 16 (own_set cU b_1 (t11_1).toNat y_1.b _) ?_
      refine WpOps.nil ?_
      refine ⟨_, Heap.le_refl _, ?_⟩
      refine WpC.regionD ?_
      obtain ⟨c_2, h⟩ := Sh.chk_some h
      refine WpOps.pn 2 rfl c_2 ?_
      refine WpOps.nil ?_
      obtain ⟨_, hle_1, hH⟩ := hH.lose_ (i := 0) rfl
      obtain rfl := Sh.some_inj h
      exact ⟨_, hle_1, ((t11_1 + (1 : Int)), (b_1.set (t11_1).toNat y_1.b)), (some (g_3, cp_2)), rfl, ⟨rfl, rfl, rfl, rfl, trivial⟩, hH⟩
    ·
      replace h := Sh.ite_neg hb h
      obtain rfl := Sh.some_inj h
      have e := hd_1 _ rfl
      subst e
      refine WpC.exit ?_
      exact ⟨(b_1, p_1), ⟨rfl, trivial⟩, hk_1, hH⟩
  ·
    rintro ⟨b_2, p_2⟩ env H' ⟨h, hH⟩
    try dsimp only at h
    refine ⟨_, Heap.le_refl _, ?_⟩
    refine WpC.seqR ?_
    refine WpOps.pn 1 rfl trivial ?_
    refine WpOps.consE (v := (sA b_2)) rfl rfl (Exact.string_of_bytes (bs := b_2) rfl rfl rfl rfl rfl (hH.src (i := 0) rfl)) ?_
    refine WpOps.pn 1 rfl trivial ?_
    refine WpOps.nil ?_
    refine WpC.lose (i := 0) hH rfl (fun H' hH => ?_)
    obtain rfl := Sh.some_inj h
    refine WpC.ret ?_
    exact VEnds.ret1 rfl rfl ⟨rfl, hH⟩

theorem w_pptok_reader_byte {H : Heap} {g_1 : Nat} {r_1 : GPptok_reader} {far_1 : Int} (hg : H g_1 = some (.cells 76 (cGPptok_reader r_1))) {r : UInt8} (h : pptok_reader_byte r_1 far_1 = some r) : TCall Tryd.prog 46 [(.lit (.pointer (some ⟨g_1, 0, none⟩))), (iA far_1)] H (fun v H' => v = (u8A r) ∧ H' = H) noE := by
  obtain ⟨H0, hH⟩ : ∃ H0, Holds H0 [.cell g_1 76 (cGPptok_reader r_1)] H := ⟨_, Holds.of_cell hg⟩
  refine TCall.held hH (id (TCall.body Tryd.func46 rfl rfl ?_))
  refine WpC.seqR ?_
  refine WpOps.pn 1 rfl trivial ?_
  refine WpOps.nil ?_
  refine WpC.seq ?_
  refine WpC.seqD [.I, .I, .I, .S, .I, .I, .I, .I, .I, .S] [0, 1, 2, 3, 4, 5, 6, 7, 8, 9, 10, 11] (by kernel_rfl) (by kernel_rfl) ?_
  refine WpPi.pn 3 rfl trivial ?_
  refine WpPi.consS (v := (iA r_1.at_)) rfl rfl rfl rfl (Exact.load rfl rfl (hH.cell (i := 0) rfl) rfl rfl) ?_
  obtain ⟨c_1, h⟩ := Sh.chk_some h
  refine WpPi.pn 5 rfl c_1 ?_
  refine WpPi.consS (v := (sA r_1.s)) rfl rfl rfl rfl (Exact.load rfl rfl (hH.cell (i := 0) rfl) rfl rfl) ?_
  refine WpPi.pn 2 rfl trivial ?_
  refine WpPi.nil ?_
  refine WpC.condB rfl (fun hb => ?_) (fun hb => ?_)
  ·
    replace h := Sh.ite_pos hb h
    refine WpC.seqR ?_
    refine WpOps.pn 1 rfl trivial ?_
    refine WpOps.nil ?_
    obtain rfl := Sh.some_inj h
    refine WpC.ret ?_
    exact VEnds.ret1 rfl rfl ⟨rfl, hH⟩
  ·
    replace h := Sh.ite_neg hb h
    refine WpC.skipD ?_
    refine ⟨_, Heap.le_refl _, ?_⟩
    refine WpC.seqD [.I, .I, .I, .S, .I, .I, .I, .S] [0, 1, 2, 3, 4, 5, 6, 7, 8, 9, 10, 11] (by kernel_rfl) (by kernel_rfl) ?_
    refine WpPi.pn 3 rfl trivial ?_
    refine WpPi.consS (v := (sA r_1.s)) rfl rfl rfl rfl (Exact.load rfl rfl (hH.cell (i := 0) rfl) rfl rfl) ?_
    refine WpPi.pn 3 rfl trivial ?_
    refine WpPi.consS (v := (iA r_1.at_)) rfl rfl rfl rfl (Exact.load rfl rfl (hH.cell (i := 0) rfl) rfl rfl) ?_
    obtain ⟨c_2, h⟩ := Sh.chk_some h
    obtain ⟨ch_1, hch_1, h⟩ := Sh.bind_some h
    refine WpPi.pn 2 rfl c_2 ?_
    refine WpPi.consI (v := (u8A ch_1)) rfl rfl rfl rfl (fun _ => Exact.ixs hch_1 rfl rfl rfl rfl) ?_
    refine WpPi.pn 1 rfl trivial ?_
    refine WpPi.nil ?_
    obtain rfl := Sh.some_inj h
    refine WpC.ret ?_
    exact VEnds.ret1 rfl rfl ⟨rfl, hH⟩

theorem w_pptok_reader_has {H : Heap} {g_1 : Nat} {r_1 : GPptok_reader} {s_1 : List UInt8} (hg : H g_1 = some (.cells 76 (cGPptok_reader r_1))) {r : Bool} (h : pptok_reader_has r_1 s_1 = some r) : TCall Tryd.prog 47 [(.lit (.pointer (some ⟨g_1, 0, none⟩))), (sA s_1)] H (fun v H' => v = (bA r) ∧ H' = H) noE := by
  obtain ⟨H0, hH⟩ : ∃ H0, Holds H0 [.cell g_1 76 (cGPptok_reader r_1)] H := ⟨_, Holds.of_cell hg⟩
  refine TCall.held hH (id (TCall.body Tryd.func47 rfl rfl ?_))
  refine WpC.seqR ?_
  refine WpOps.pn 1 rfl trivial ?_
  refine WpOps.nil ?_
  refine WpC.seqD [.I, .I, .I, .S, .I, .I, .I, .S] [0, 1, 2, 3, 4, 5, 6, 7, 8, 9, 10, 11] (by kernel_rfl) (by kernel_rfl) ?_
  refine WpPi.pn 3 rfl trivial ?_
  refine WpPi.consS (v := (sA r_1.s)) rfl rfl rfl rfl (Exact.load rfl rfl (hH.cell (i := 0) rfl) rfl rfl) ?_
  refine WpPi.pn 3 rfl trivial ?_
  refine WpPi.consS (v := (iA r_1.at_)) rfl rfl rfl rfl (Exact.load rfl rfl (hH.cell (i := 0) rfl) rfl rfl) ?_
  obtain ⟨c_1, h⟩ := Sh.chk_some h
  refine WpPi.pn 1 rfl (show 0 ≤ r_1.at_ ∧ True ∧ (r_1.at_).toNat ≤ r_1.s.length from ⟨(by omega), trivial, (by omega)⟩) ?_
  refine WpPi.pn 1 rfl trivial ?_
  refine WpPi.consI (v := (bA (Lib.hasPrefix (r_1.s.drop (r_1.at_).toNat) s_1))) rfl rfl rfl rfl (fun _ => Exact.call rfl rfl rfl (l_HasPrefix (r_1.s.drop (r_1.at_).toNat) s_1)) ?_
  refine WpPi.pn 1 rfl trivial ?_
  refine WpPi.nil ?_
  obtain rfl := Sh.some_inj h
  refine WpC.ret ?_
  exact VEnds.ret1 rfl rfl ⟨rfl, hH⟩

theorem w_pptok_reader_blank {H0 H : Heap} {g_1 : Nat} (hG : Glob H0) {r_1 : GPptok_reader} (hH : Holds H0 [.cell g_1 76 (cGPptok_reader r_1)] H) {r : (Bool) × GPptok_reader} (h : pptok_reader_blank r_1 = some r) : TCall Tryd.prog 35 [(.lit (.pointer (some ⟨g_1, 0, none⟩)))] H (fun v H' => v = (bA r.1) ∧ Holds H0 [.cell g_1 76 (cGPptok_reader r.2)] H') noE := by
  refine TCall.body Tryd.func35 rfl rfl ?_
  refine WpC.seqR ?_
  refine WpOps.pn 1 rfl trivial ?_
  refine WpOps.nil ?_
  refine WpC.seqK (fun x : (GPptok_reader) × (Unit) => [(0, (.lit (.pointer (some ⟨g_1, 0, none⟩))))]) (fun x H' => pptok_reader_blank_j1 x.1 = some r ∧ Holds H0 [.cell g_1 76 (cGPptok_reader x.1)] H') ?_ ?_
  ·
    refine WpC.seqR ?_
    obtain ⟨r_2, hr_1, h⟩ := Sh.bind_some h
    refine WpOps.pn 1 rfl trivial ?_
    refine WpOps.consE (v := (u8A r_2)) rfl rfl (Exact.call rfl rfl rfl (w_pptok_reader_byte (hH.cell (i := 0) rfl) hr_1)) ?_
    refine WpOps.nil ?_
    refine WpC.block ?_
    refine WpC.seqK (fun x : (Bool) × (Unit) => [(0, (.lit (.pointer (some ⟨g_1, 0, none⟩)))), (7, (bA x.1))]) (fun x H' => (pptok_reader_blank_j2 r_1) x.1 = some r ∧ Holds H0 [.cell g_1 76 (cGPptok_reader r_1)] H') ?_ ?_
    ·
      refine WpC.seqR ?_
      refine WpOps.pn 2 rfl trivial ?_
      refine WpOps.nil ?_
      refine WpC.condB rfl (fun hb => ?_) (fun hb => ?_)
      ·
        replace h := Sh.ite_pos hb h
        refine WpC.skipD ?_
        exact ⟨_, (Heap.le_refl _), ((decide ((r_2.toNat : Int) = (32 : Int))), ()), ⟨rfl, rfl, trivial⟩, h, hH⟩
      ·
        replace h := Sh.ite_neg hb h
        refine WpC.seqR ?_
        refine WpOps.pn 2 rfl trivial ?_
        refine WpOps.nil ?_
        refine WpC.condB rfl (fun hb => ?_) (fun hb => ?_)
        ·
          replace h := Sh.ite_pos hb h
          refine WpC.skipD ?_
          exact ⟨_, (Heap.le_refl _), ((decide ((r_2.toNat : Int) = (9 : Int))), ()), ⟨rfl, rfl, trivial⟩, h, hH⟩
        ·
          replace h := Sh.ite_neg hb h
          refine WpC.seqR ?_
          refine WpOps.pn 2 rfl trivial ?_
          refine WpOps.nil ?_
          refine WpC.condB rfl (fun hb => ?_) (fun hb => ?_)
          ·
            replace h := Sh.ite_pos hb h
            refine WpC.skipD ?_
            exact ⟨_, (Heap.le_refl _), ((decide ((r_2.toNat : Int) = (11 : Int))), ()), ⟨rfl, rfl, trivial⟩, h, hH⟩
          ·
            replace h := Sh.ite_neg hb h
            refine WpC.seqR ?_
            refine WpOps.pn 2 rfl trivial ?_
            refine WpOps.nil ?_
            refine WpC.condB rfl (fun hb => ?_) (fun hb => ?_)
            ·
              replace h := Sh.ite_pos hb h
              refine WpC.skipD ?_
              exact ⟨_, (Heap.le_refl _), ((decide ((r_2.toNat : Int) = (12 : Int))), ()), ⟨rfl, rfl, trivial⟩, h, hH⟩
            ·
              replace h := Sh.ite_neg hb h
              refine WpC.regionD ?_
              refine WpOps.pn 2 rfl trivial ?_
              refine WpOps.nil ?_
              exact ⟨_, (Heap.le_refl _), ((decide ((r_2.toNat : Int) = (13 : Int))), ()), ⟨rfl, rfl, trivial⟩, h, hH⟩
    ·
      rintro ⟨t7_1, _⟩ env H' ⟨h, hH⟩
      try dsimp only at h
      refine WpC.condB rfl (fun hb => ?_) (fun hb => ?_)
      ·
        replace h := Sh.ite_pos hb h
        refine WpC.seqR ?_
        refine WpOps.pn 3 rfl trivial ?_
        refine WpOps.consE (v := (iA r_1.at_)) rfl rfl (Exact.load rfl rfl (hH.cell (i := 0) rfl) rfl rfl) ?_
        obtain ⟨c_1, h⟩ := Sh.chk_some h
        refine WpOps.pn 3 rfl c_1 ?_
        refine WpOps.consG rfl rfl (WpO.putT (cs' := (cGPptok_reader (GPptok_reader.mk r_1.s (r_1.at_ + (1 : Int))))) (v := (iA (r_1.at_ + (1 : Int)))) rfl rfl hH (i := 0) rfl rfl rfl rfl rfl rfl rfl fun H' hH => ?_)
        refine WpOps.nil ?_
        refine WpC.seqR ?_
        refine WpOps.pn 1 rfl trivial ?_
        refine WpOps.nil ?_
        obtain rfl := Sh.some_inj h
        refine WpC.ret ?_
        exact VEnds.ret1 rfl rfl ⟨rfl, hH⟩
      ·
        replace h := Sh.ite_neg hb h
        refine WpC.skipD ?_
        exact ⟨_, (Heap.le_refl _), (r_1, ()), ⟨rfl, trivial⟩, h, hH⟩
  ·
    rintro ⟨r_3, _⟩ env H' ⟨h, hH⟩
    try dsimp only at h
    refine WpC.seq ?_
    refine WpC.seqR ?_
    obtain ⟨r_4, hr_2, h⟩ := Sh.bind_some h
    refine WpOps.pn 1 rfl trivial ?_
    refine WpOps.consE (v := (bA r_4)) rfl rfl (Exact.call rfl rfl rfl (w_pptok_reader_has (hH.cell (i := 0) rfl) hr_2)) ?_
    refine WpOps.nil ?_
    refine WpC.condB rfl (fun hb => ?_) (fun hb => ?_)
    ·
      replace h := Sh.ite_pos hb h
      refine WpC.seqD [.I, .I, .I, .S, .I, .I, .I, .S] [0, 1, 2, 3, 4, 5, 6, 7, 8, 9, 10] (by kernel_rfl) (by kernel_rfl) ?_
      refine WpPi.pn 3 rfl trivial ?_
      refine WpPi.consS (v := (sA r_3.s)) rfl rfl rfl rfl (Exact.load rfl rfl (hH.cell (i := 0) rfl) rfl rfl) ?_
      refine WpPi.pn 3 rfl trivial ?_
      refine WpPi.consS (v := (iA r_3.at_)) rfl rfl rfl rfl (Exact.load rfl rfl (hH.cell (i := 0) rfl) rfl rfl) ?_
      obtain ⟨c_2, h⟩ := Sh.chk_some h
      refine WpPi.pn 1 rfl (show 0 ≤ r_3.at_ ∧ True ∧ (r_3.at_).toNat ≤ r_3.s.length from ⟨(by omega), trivial, (by omega)⟩) ?_
      refine WpPi.consI (v := (iA (Lib.indexByte (r_3.s.drop (r_3.at_).toNat) (10 : UInt8)))) rfl rfl rfl rfl (fun _ => Exact.call rfl rfl rfl (l_IndexByte (r_3.s.drop (r_3.at_).toNat) (10 : UInt8))) ?_
      refine WpPi.pn 1 rfl trivial ?_
      refine WpPi.nil ?_
      refine WpC.seqK (fun x : (Int) × (Unit) => [(0, (.lit (.pointer (some ⟨g_1, 0, none⟩)))), (3, (iA x.1))]) (fun x H' => (pptok_reader_blank_j3 r_3) x.1 = some r ∧ Holds H0 [.cell g_1 76 (cGPptok_reader r_3)] H') ?_ ?_
      ·
        refine WpC.seqR ?_
        refine WpOps.pn 2 rfl trivial ?_
        refine WpOps.nil ?_
        refine WpC.condB rfl (fun hb => ?_) (fun hb => ?_)
        ·
          replace h := Sh.ite_pos hb h
          refine WpC.drawD [.I, .I, .I, .S, .I, .I, .I, .I, .S] [0, 1, 2, 3, 4, 5, 6, 7, 8, 9, 10] (by kernel_rfl) (by kernel_rfl) ?_
          refine WpPi.pn 3 rfl trivial ?_
          refine WpPi.consS (v := (sA r_3.s)) rfl rfl rfl rfl (Exact.load rfl rfl (hH.cell (i := 0) rfl) rfl rfl) ?_
          refine WpPi.pn 4 rfl trivial ?_
          refine WpPi.consS (v := (iA r_3.at_)) rfl rfl rfl rfl (Exact.load rfl rfl (hH.cell (i := 0) rfl) rfl rfl) ?_
          obtain ⟨c_3, h⟩ := Sh.chk_some h
          refine WpPi.pn 2 rfl c_3 ?_
          refine WpPi.nil ?_
          exact ⟨_, (Heap.le_refl _), (((r_3.s.length : Int) - r_3.at_), ()), ⟨rfl, rfl, trivial⟩, h, hH⟩
        ·
          replace h := Sh.ite_neg hb h
          refine WpC.skipD ?_
          exact ⟨_, (Heap.le_refl _), ((Lib.indexByte (r_3.s.drop (r_3.at_).toNat) (10 : UInt8)), ()), ⟨rfl, rfl, trivial⟩, h, hH⟩
      ·
        rintro ⟨end_1, _⟩ env H' ⟨h, hH⟩
        try dsimp only at h
        refine WpC.seqR ?_
        refine WpOps.pn 3 rfl trivial ?_
        refine WpOps.consE (v := (iA r_3.at_)) rfl rfl (Exact.load rfl rfl (hH.cell (i := 0) rfl) rfl rfl) ?_
        obtain ⟨c_4, h⟩ := Sh.chk_some h
        refine WpOps.pn 4 rfl c_4 ?_
        refine WpOps.consG rfl rfl (WpO.putT (cs' := (cGPptok_reader (GPptok_reader.mk r_3.s (r_3.at_ + end_1)))) (v := (iA (r_3.at_ + end_1))) rfl rfl hH (i := 0) rfl rfl rfl rfl rfl rfl rfl fun H' hH => ?_)
        refine WpOps.nil ?_
        refine WpC.seqR ?_
        refine WpOps.pn 1 rfl trivial ?_
        refine WpOps.nil ?_
        obtain rfl := Sh.some_inj h
        refine WpC.ret ?_
        exact VEnds.ret1 rfl rfl ⟨rfl, hH⟩
    ·
      replace h := Sh.ite_neg hb h
      refine WpC.skipD ?_
      refine ⟨_, Heap.le_refl _, ?_⟩
      refine WpC.seq ?_
      refine WpC.seqR ?_
      obtain ⟨r_5, hr_3, h⟩ := Sh.bind_some h
      refine WpOps.pn 1 rfl trivial ?_
      refine WpOps.consE (v := (bA r_5)) rfl rfl (Exact.call rfl rfl rfl (w_pptok_reader_has (hH.cell (i := 0) rfl) hr_3)) ?_
      refine WpOps.pn 1 rfl trivial ?_
      refine WpOps.nil ?_
      refine WpC.condB rfl (fun hb => ?_) (fun hb => ?_)
      ·
        replace h := Sh.ite_pos hb h
        refine WpC.seqR ?_
        refine WpOps.pn 1 rfl trivial ?_
        refine WpOps.nil ?_
        obtain rfl := Sh.some_inj h
        refine WpC.ret ?_
        exact VEnds.ret1 rfl rfl ⟨rfl, hH⟩
      ·
        replace h := Sh.ite_neg hb h
        refine WpC.skipD ?_
        refine ⟨_, Heap.le_refl _, ?_⟩
        refine WpC.seqD [.I, .I, .I, .S, .I, .I, .I, .S, .I, .I, .S] [0, 1, 2, 3, 4, 5, 6, 7, 8, 9, 10, 11] (by kernel_rfl) (by kernel_rfl) ?_
        refine WpPi.pn 3 rfl trivial ?_
        refine WpPi.consS (v := (sA r_3.s)) rfl rfl rfl rfl (Exact.load rfl rfl (hH.cell (i := 0) rfl) rfl rfl) ?_
        refine WpPi.pn 3 rfl trivial ?_
        refine WpPi.consS (v := (iA r_3.at_)) rfl rfl rfl rfl (Exact.load rfl rfl (hH.cell (i := 0) rfl) rfl rfl) ?_
        obtain ⟨c_5, h⟩ := Sh.chk_some h
        obtain ⟨c_6, h⟩ := Sh.chk_some h
        refine WpPi.pn 1 rfl c_5 ?_
        refine WpPi.pn 1 rfl (show 0 ≤ (r_3.at_ + (2 : Int)) ∧ True ∧ ((r_3.at_ + (2 : Int))).toNat ≤ r_3.s.length from ⟨(by omega), trivial, (by omega)⟩) ?_
        obtain ⟨c_7, h⟩ := Sh.chk_some h
        refine WpPi.consS (v := (iA (Lib.index (r_3.s.drop ((r_3.at_ + (2 : Int))).toNat) ([42, 47] : List UInt8)))) rfl rfl rfl rfl (Exact.call rfl rfl rfl (l_Index (r_3.s.drop ((r_3.at_ + (2 : Int))).toNat) ([42, 47] : List UInt8) (hG.up hH).i c_7)) ?_
        refine WpPi.pn 1 rfl trivial ?_
        refine WpPi.nil ?_
        refine WpC.seq ?_
        refine WpC.seqR ?_
        refine WpOps.pn 2 rfl trivial ?_
        refine WpOps.nil ?_
        refine WpC.condB rfl (fun hb => ?_) (fun hb => ?_)
        ·
          replace h := Sh.ite_pos hb h
          refine WpC.seqR ?_
          refine WpOps.pn 1 rfl trivial ?_
          refine WpOps.nil ?_
          obtain rfl := Sh.some_inj h
          refine WpC.ret ?_
          exact VEnds.ret1 rfl rfl ⟨rfl, hH⟩
        ·
          replace h := Sh.ite_neg hb h
          refine WpC.skipD ?_
          refine ⟨_, Heap.le_refl _, ?_⟩
          refine WpC.seqR ?_
          refine WpOps.pn 3 rfl trivial ?_
          refine WpOps.consE (v := (iA r_3.at_)) rfl rfl (Exact.load rfl rfl (hH.cell (i := 0) rfl) rfl rfl) ?_
          obtain ⟨c_8, h⟩ := Sh.chk_some h
          obtain ⟨c_9, h⟩ := Sh.chk_some h
          refine WpOps.pn 5 rfl ⟨c_9, c_8⟩ ?_
          refine WpOps.consG rfl rfl (WpO.putT (cs' := (cGPptok_reader (GPptok_reader.mk r_3.s (r_3.at_ + ((Lib.index (r_3.s.drop ((r_3.at_ + (2 : Int))).toNat) ([42, 47] : List UInt8)) + (4 : Int)))))) (v := (iA (r_3.at_ + ((Lib.index (r_3.s.drop ((r_3.at_ + (2 : Int))).toNat) ([42, 47] : List UInt8)) + (4 : Int))))) rfl rfl hH (i := 0) rfl rfl rfl rfl rfl rfl rfl fun H' hH => ?_)
          refine WpOps.nil ?_
          refine WpC.seqR ?_
          refine WpOps.pn 1 rfl trivial ?_
          refine WpOps.nil ?_
          obtain rfl := Sh.some_inj h
          refine WpC.ret ?_
          exact VEnds.ret1 rfl rfl ⟨rfl, hH⟩

theorem w_pptok_letter {H0 : Heap} {c_1 : UInt8} {r : Bool} (h : pptok_letter c_1 = some r) : TCall Tryd.prog 63 [(u8A c_1)] H0 (fun v H' => v = (bA r) ∧ H' = H0) noE := by
  refine id (TCall.body Tryd.func63 rfl rfl ?_)
  have hH : Holds H0 [] H0 := rfl
  refine WpC.seqR ?_
  refine WpOps.pn 1 rfl trivial ?_
  refine WpOps.nil ?_
  refine WpC.seqR ?_
  refine WpOps.pn 2 rfl trivial ?_
  obtain ⟨b_1, g_1, h⟩ := Sh.bind_some h
  refine WpOps.cutB 8 12 (bA b_1) rfl ?_ ?_
  ·
    refine WpOps.pn 1 rfl trivial ?_
    refine WpOps.split 5 rfl (fun hb => ?_) (fun hb => ?_)
    ·
      replace g_1 := Sh.ite_pos hb g_1
      refine WpOps.pn 7 rfl trivial ?_
      refine WpOps.nil ?_
      obtain rfl := Sh.some_inj g_1
      exact ⟨rfl, rfl⟩
    ·
      replace g_1 := Sh.ite_neg hb g_1
      refine WpOps.pn 2 rfl trivial ?_
      obtain ⟨b_2, g_2, g_1⟩ := Sh.bind_some g_1
      refine WpOps.cutB 4 11 (bA b_2) rfl ?_ ?_
      ·
        refine WpOps.pn 1 rfl trivial ?_
        refine WpOps.split 8 rfl (fun hb => ?_) (fun hb => ?_)
        ·
          replace g_2 := Sh.ite_pos hb g_2
          refine WpOps.pn 3 rfl trivial ?_
          refine WpOps.nil ?_
          obtain rfl := Sh.some_inj g_2
          exact ⟨rfl, rfl⟩
        ·
          replace g_2 := Sh.ite_neg hb g_2
          refine WpOps.pn 3 rfl trivial ?_
          refine WpOps.nil ?_
          obtain rfl := Sh.some_inj g_2
          exact ⟨rfl, rfl⟩
      intro env
      refine WpOps.pn 1 rfl trivial ?_
      refine WpOps.nil ?_
      obtain rfl := Sh.some_inj g_1
      exact ⟨rfl, rfl⟩
  intro env
  obtain ⟨b_3, g_3, h⟩ := Sh.bind_some h
  refine WpOps.cutB 8 20 (bA b_3) rfl ?_ ?_
  ·
    refine WpOps.pn 1 rfl trivial ?_
    refine WpOps.split 13 rfl (fun hb => ?_) (fun hb => ?_)
    ·
      replace g_3 := Sh.ite_pos hb g_3
      refine WpOps.pn 7 rfl trivial ?_
      refine WpOps.nil ?_
      obtain rfl := Sh.some_inj g_3
      exact ⟨rfl, rfl⟩
    ·
      replace g_3 := Sh.ite_neg hb g_3
      refine WpOps.pn 2 rfl trivial ?_
      obtain ⟨b_4, g_4, g_3⟩ := Sh.bind_some g_3
      refine WpOps.cutB 4 19 (bA b_4) rfl ?_ ?_
      ·
        refine WpOps.pn 1 rfl trivial ?_
        refine WpOps.split 16 rfl (fun hb => ?_) (fun hb => ?_)
        ·
          replace g_4 := Sh.ite_pos hb g_4
          refine WpOps.pn 3 rfl trivial ?_
          refine WpOps.nil ?_
          obtain rfl := Sh.some_inj g_4
          exact ⟨rfl, rfl⟩
        ·
          replace g_4 := Sh.ite_neg hb g_4
          refine WpOps.pn 3 rfl trivial ?_
          refine WpOps.nil ?_
          obtain rfl := Sh.some_inj g_4
          exact ⟨rfl, rfl⟩
      intro env
      refine WpOps.pn 1 rfl trivial ?_
      refine WpOps.nil ?_
      obtain rfl := Sh.some_inj g_3
      exact ⟨rfl, rfl⟩
  intro env
  refine WpOps.pn 1 rfl trivial ?_
  refine WpOps.nil ?_
  obtain rfl := Sh.some_inj h
  refine WpC.ret ?_
  exact VEnds.ret1 rfl rfl ⟨rfl, hH⟩

theorem w_pptok_digit {H0 : Heap} {c_1 : UInt8} {r : Bool} (h : pptok_digit c_1 = some r) : TCall Tryd.prog 64 [(u8A c_1)] H0 (fun v H' => v = (bA r) ∧ H' = H0) noE := by
  refine id (TCall.body Tryd.func64 rfl rfl ?_)
  have hH : Holds H0 [] H0 := rfl
  refine WpC.seqR ?_
  refine WpOps.pn 1 rfl trivial ?_
  refine WpOps.nil ?_
  refine WpC.seqR ?_
  refine WpOps.pn 2 rfl trivial ?_
  obtain ⟨b_1, g_1, h⟩ := Sh.bind_some h
  refine WpOps.cutB 4 8 (bA b_1) rfl ?_ ?_
  ·
    refine WpOps.pn 1 rfl trivial ?_
    refine WpOps.split 5 rfl (fun hb => ?_) (fun hb => ?_)
    ·
      replace g_1 := Sh.ite_pos hb g_1
      refine WpOps.pn 3 rfl trivial ?_
      refine WpOps.nil ?_
      obtain rfl := Sh.some_inj g_1
      exact ⟨rfl, rfl⟩
    ·
      replace g_1 := Sh.ite_neg hb g_1
      refine WpOps.pn 3 rfl trivial ?_
      refine WpOps.nil ?_
      obtain rfl := Sh.some_inj g_1
      exact ⟨rfl, rfl⟩
  intro env
  refine WpOps.pn 1 rfl trivial ?_
  refine WpOps.nil ?_
  obtain rfl := Sh.some_inj h
  refine WpC.ret ?_
  exact VEnds.ret1 rfl rfl ⟨rfl, hH⟩

theorem w_pptok_reader_word {H : Heap} {g_1 : Nat} {r_1 : GPptok_reader} (hg : H g_1 = some (.cells 76 (cGPptok_reader r_1))) {r : Int} (h : pptok_reader_word r_1 = some r) : TCall Tryd.prog 50 [(.lit (.pointer (some ⟨g_1, 0, none⟩)))] H (fun v H' => v = (iA r) ∧ H' = H) noE := by
  obtain ⟨H0, hH⟩ : ∃ H0, Holds H0 [.cell g_1 76 (cGPptok_reader r_1)] H := ⟨_, Holds.of_cell hg⟩
  refine TCall.held hH (id (TCall.body Tryd.func50 rfl rfl ?_))
  refine WpC.seqR ?_
  refine WpOps.pn 1 rfl trivial ?_
  refine WpOps.nil ?_
  refine WpC.seqR ?_
  refine WpOps.pn 1 rfl trivial ?_
  refine WpOps.nil ?_
  refine WpC.seqB (fun x : (Int) × (Unit) => [(3, (iA x.1))]) (fun x H' => pptok_reader_word_j1 x.1 = some r ∧ Holds H0 [.cell g_1 76 (cGPptok_reader r_1)] H') ?_ ?_
  ·
    obtain ⟨o_1, ho_1, hk_1⟩ := Sh.bind_some h
    refine WpC.loopS (pptok_reader_word_b2 r_1) (fun (s : Int) (a : Unit) => [(0, (.lit (.pointer (some ⟨g_1, 0, none⟩)))), (3, (iA s))]) (fun (s : Int) (a : Unit) H' => Holds H0 [.cell g_1 76 (cGPptok_reader r_1)] H') o_1 (0 : Int) () ho_1 ⟨rfl, rfl, trivial⟩ hH ?_
    rintro n_1 _ st_1 env H' h hd_1 hH
    refine WpC.seq ?_
    refine WpC.seqR ?_
    obtain ⟨r_2, hr_1, h⟩ := Sh.bind_some h
    refine WpOps.pn 2 rfl trivial ?_
    refine WpOps.consE (v := (u8A r_2)) rfl rfl (Exact.call rfl rfl rfl (w_pptok_reader_byte (hH.cell (i := 0) rfl) hr_1)) ?_
    obtain ⟨r_3, hr_2, h⟩ := Sh.bind_some h
    refine WpOps.consE (v := (bA r_3)) rfl rfl (Exact.call rfl rfl rfl (w_pptok_letter hr_2)) ?_
    obtain ⟨b_1, g_2, h⟩ := Sh.bind_some h
    refine WpOps.cutB 10 17 (bA b_1) rfl ?_ ?_
    ·
      refine WpOps.pn 1 rfl trivial ?_
      refine WpOps.split 8 rfl (fun hb => ?_) (fun hb => ?_)
      ·
        replace g_2 := Sh.ite_pos hb g_2
        refine WpOps.pn 9 rfl trivial ?_
        refine WpOps.nil ?_
        obtain rfl := Sh.some_inj g_2
        exact ⟨rfl, rfl⟩
      ·
        replace g_2 := Sh.ite_neg hb g_2
        refine WpOps.pn 2 rfl trivial ?_
        obtain ⟨b_2, g_3, g_2⟩ := Sh.bind_some g_2
        refine WpOps.cutB 6 16 (bA b_2) rfl ?_ ?_
        ·
          refine WpOps.pn 1 rfl trivial ?_
          refine WpOps.split 11 rfl (fun hb => ?_) (fun hb => ?_)
          ·
            replace g_3 := Sh.ite_pos hb g_3
            obtain ⟨r_4, hr_3, g_3⟩ := Sh.bind_some g_3
            refine WpOps.pn 2 rfl trivial ?_
            refine WpOps.consE (v := (u8A r_4)) rfl rfl (Exact.call rfl rfl rfl (w_pptok_reader_byte (hH.cell (i := 0) rfl) hr_3)) ?_
            obtain ⟨r_5, hr_4, g_3⟩ := Sh.bind_some g_3
            refine WpOps.consE (v := (bA r_5)) rfl rfl (Exact.call rfl rfl rfl (w_pptok_digit hr_4)) ?_
            refine WpOps.pn 1 rfl trivial ?_
            refine WpOps.nil ?_
            obtain rfl := Sh.some_inj g_3
            exact ⟨rfl, rfl⟩
          ·
            replace g_3 := Sh.ite_neg hb g_3
            refine WpOps.pn 5 rfl trivial ?_
            refine WpOps.nil ?_
            obtain rfl := Sh.some_inj g_3
            exact ⟨rfl, rfl⟩
        intro env
        refine WpOps.pn 1 rfl trivial ?_
        refine WpOps.nil ?_
        obtain rfl := Sh.some_inj g_2
        exact ⟨rfl, rfl⟩
    intro env
    refine WpOps.nil ?_
    refine WpC.condB rfl (fun hb => ?_) (fun hb => ?_)
    ·
      replace h := Sh.ite_pos hb h
      refine WpC.skipD ?_
      refine ⟨_, Heap.le_refl _, ?_⟩
      refine WpC.block ?_
      refine WpC.regionD ?_
      obtain ⟨c_1, h⟩ := Sh.chk_some h
      refine WpOps.pn 3 rfl c_1 ?_
      refine WpOps.nil ?_
      obtain rfl := Sh.some_inj h
      exact ⟨_, (Heap.le_refl _), (n_1 + (1 : Int)), (), rfl, ⟨rfl, rfl, trivial⟩, hH⟩
    ·
      replace h := Sh.ite_neg hb h
      obtain rfl := Sh.some_inj h
      have e := hd_1 _ rfl
      subst e
      refine WpC.exit ?_
      exact ⟨(n_1, ()), ⟨rfl, trivial⟩, hk_1, hH⟩
  ·
    rintro ⟨n_2, _⟩ env H' ⟨h, hH⟩
    try dsimp only at h
    refine WpC.seqR ?_
    refine WpOps.pn 2 rfl trivial ?_
    refine WpOps.nil ?_
    obtain rfl := Sh.some_inj h
    refine WpC.ret ?_
    exact VEnds.ret1 rfl rfl ⟨rfl, hH⟩

theorem w_pptok_reader_number {H : Heap} {g_1 : Nat} {r_1 : GPptok_reader} (hg : H g_1 = some (.cells 76 (cGPptok_reader r_1))) {r : Int} (h : pptok_reader_number r_1 = some r) : TCall Tryd.prog 51 [(.lit (.pointer (some ⟨g_1, 0, none⟩)))] H (fun v H' => v = (iA r) ∧ H' = H) noE := by
  obtain ⟨H0, hH⟩ : ∃ H0, Holds H0 [.cell g_1 76 (cGPptok_reader r_1)] H := ⟨_, Holds.of_cell hg⟩
  refine TCall.held hH (id (TCall.body Tryd.func51 rfl rfl ?_))
  refine WpC.seqR ?_
  refine WpOps.pn 1 rfl trivial ?_
  refine WpOps.nil ?_
  refine WpC.seq ?_
  refine WpC.seqR ?_
  obtain ⟨r_2, hr_1, h⟩ := Sh.bind_some h
  refine WpOps.pn 1 rfl trivial ?_
  refine WpOps.consE (v := (u8A r_2)) rfl rfl (Exact.call rfl rfl rfl (w_pptok_reader_byte (hH.cell (i := 0) rfl) hr_1)) ?_
  obtain ⟨r_3, hr_2, h⟩ := Sh.bind_some h
  refine WpOps.consE (v := (bA r_3)) rfl rfl (Exact.call rfl rfl rfl (w_pptok_digit hr_2)) ?_
  refine WpOps.pn 1 rfl trivial ?_
  obtain ⟨b_1, g_2, h⟩ := Sh.bind_some h
  refine WpOps.cutB 11 20 (bA b_1) rfl ?_ ?_
  ·
    refine WpOps.pn 1 rfl trivial ?_
    refine WpOps.split 10 rfl (fun hb => ?_) (fun hb => ?_)
    ·
      replace g_2 := Sh.ite_pos hb g_2
      obtain ⟨r_4, hr_3, g_2⟩ := Sh.bind_some g_2
      refine WpOps.pn 1 rfl trivial ?_
      refine WpOps.consE (v := (u8A r_4)) rfl rfl (Exact.call rfl rfl rfl (w_pptok_reader_byte (hH.cell (i := 0) rfl) hr_3)) ?_
      refine WpOps.pn 1 rfl trivial ?_
      obtain ⟨b_2, g_3, g_2⟩ := Sh.bind_some g_2
      refine WpOps.cutB 6 19 (bA b_2) rfl ?_ ?_
      ·
        refine WpOps.pn 1 rfl trivial ?_
        refine WpOps.split 14 rfl (fun hb => ?_) (fun hb => ?_)
        ·
          replace g_3 := Sh.ite_pos hb g_3
          refine WpOps.pn 5 rfl trivial ?_
          refine WpOps.nil ?_
          obtain rfl := Sh.some_inj g_3
          exact ⟨rfl, rfl⟩
        ·
          replace g_3 := Sh.ite_neg hb g_3
          obtain ⟨r_5, hr_4, g_3⟩ := Sh.bind_some g_3
          refine WpOps.pn 1 rfl trivial ?_
          refine WpOps.consE (v := (u8A r_5)) rfl rfl (Exact.call rfl rfl rfl (w_pptok_reader_byte (hH.cell (i := 0) rfl) hr_4)) ?_
          obtain ⟨r_6, hr_5, g_3⟩ := Sh.bind_some g_3
          refine WpOps.consE (v := (bA r_6)) rfl rfl (Exact.call rfl rfl rfl (w_pptok_digit hr_5)) ?_
          refine WpOps.pn 2 rfl trivial ?_
          refine WpOps.nil ?_
          obtain rfl := Sh.some_inj g_3
          exact ⟨rfl, rfl⟩
      intro env
      refine WpOps.pn 1 rfl trivial ?_
      refine WpOps.nil ?_
      obtain rfl := Sh.some_inj g_2
      exact ⟨rfl, rfl⟩
    ·
      replace g_2 := Sh.ite_neg hb g_2
      refine WpOps.pn 10 rfl trivial ?_
      refine WpOps.nil ?_
      obtain rfl := Sh.some_inj g_2
      exact ⟨rfl, rfl⟩
  intro env
  refine WpOps.nil ?_
  refine WpC.condB rfl (fun hb => ?_) (fun hb => ?_)
  ·
    replace h := Sh.ite_pos hb h
    refine WpC.seqR ?_
    refine WpOps.pn 1 rfl trivial ?_
    refine WpOps.nil ?_
    obtain rfl := Sh.some_inj h
    refine WpC.ret ?_
    exact VEnds.ret1 rfl rfl ⟨rfl, hH⟩
  ·
    replace h := Sh.ite_neg hb h
    refine WpC.skipD ?_
    refine ⟨_, Heap.le_refl _, ?_⟩
    refine WpC.seqR ?_
    refine WpOps.pn 1 rfl trivial ?_
    refine WpOps.nil ?_
    refine WpC.block ?_
    obtain ⟨o_1, ho_1, hk_1⟩ := Sh.bind_some h
    refine WpC.loopS (pptok_reader_number_b1 r_1) (fun (s : Int) (a : Unit) => [(0, (.lit (.pointer (some ⟨g_1, 0, none⟩)))), (3, (iA s))]) (fun (s : Int) (a : Unit) H' => Holds H0 [.cell g_1 76 (cGPptok_reader r_1)] H') o_1 (1 : Int) () ho_1 ⟨rfl, rfl, trivial⟩ hH ?_
    rintro n_1 _ st_1 env H' h hd_1 hH
    refine WpC.block ?_
    refine WpC.seqR ?_
    obtain ⟨r_7, hr_6, h⟩ := Sh.bind_some h
    refine WpOps.pn 2 rfl trivial ?_
    refine WpOps.consE (v := (u8A r_7)) rfl rfl (Exact.call rfl rfl rfl (w_pptok_reader_byte (hH.cell (i := 0) rfl) hr_6)) ?_
    obtain ⟨c_1, h⟩ := Sh.chk_some h
    obtain ⟨r_8, hr_7, h⟩ := Sh.bind_some h
    refine WpOps.pn 3 rfl c_1 ?_
    refine WpOps.consE (v := (u8A r_8)) rfl rfl (Exact.call rfl rfl rfl (w_pptok_reader_byte (hH.cell (i := 0) rfl) hr_7)) ?_
    refine WpOps.pn 2 rfl trivial ?_
    refine WpOps.nil ?_
    refine WpC.block ?_
    refine WpC.seqR ?_
    refine WpOps.pn 1 rfl trivial ?_
    refine WpOps.consE (v := (iA (Lib.indexByte ([101, 69, 112, 80] : List UInt8) r_7))) rfl rfl (Exact.call rfl rfl rfl (l_IndexByte ([101, 69, 112, 80] : List UInt8) r_7)) ?_
    refine WpOps.pn 1 rfl trivial ?_
    obtain ⟨b_3, g_4, h⟩ := Sh.bind_some h
    refine WpOps.cutB 8 40 (bA b_3) rfl ?_ ?_
    ·
      refine WpOps.pn 1 rfl trivial ?_
      refine WpOps.split 33 rfl (fun hb => ?_) (fun hb => ?_)
      ·
        replace g_4 := Sh.ite_pos hb g_4
        refine WpOps.pn 2 rfl trivial ?_
        obtain ⟨b_4, g_5, g_4⟩ := Sh.bind_some g_4
        refine WpOps.cutB 4 39 (bA b_4) rfl ?_ ?_
        ·
          refine WpOps.pn 1 rfl trivial ?_
          refine WpOps.split 36 rfl (fun hb => ?_) (fun hb => ?_)
          ·
            replace g_5 := Sh.ite_pos hb g_5
            refine WpOps.pn 3 rfl trivial ?_
            refine WpOps.nil ?_
            obtain rfl := Sh.some_inj g_5
            exact ⟨rfl, rfl⟩
          ·
            replace g_5 := Sh.ite_neg hb g_5
            refine WpOps.pn 3 rfl trivial ?_
            refine WpOps.nil ?_
            obtain rfl := Sh.some_inj g_5
            exact ⟨rfl, rfl⟩
        intro env
        refine WpOps.pn 1 rfl trivial ?_
        refine WpOps.nil ?_
        obtain rfl := Sh.some_inj g_4
        exact ⟨rfl, rfl⟩
      ·
        replace g_4 := Sh.ite_neg hb g_4
        refine WpOps.pn 7 rfl trivial ?_
        refine WpOps.nil ?_
        obtain rfl := Sh.some_inj g_4
        exact ⟨rfl, rfl⟩
    intro env
    refine WpOps.pn 1 rfl trivial ?_
    refine WpOps.nil ?_
    refine WpC.condB rfl (fun hb => ?_) (fun hb => ?_)
    ·
      replace h := Sh.ite_pos hb h
      refine WpC.regionD ?_
      obtain ⟨c_2, h⟩ := Sh.chk_some h
      refine WpOps.pn 3 rfl c_2 ?_
      refine WpOps.nil ?_
      obtain rfl := Sh.some_inj h
      exact ⟨_, (Heap.le_refl _), (n_1 + (2 : Int)), (), rfl, ⟨rfl, rfl, trivial⟩, hH⟩
    ·
      replace h := Sh.ite_neg hb h
      refine WpC.seqR ?_
      obtain ⟨r_9, hr_8, h⟩ := Sh.bind_some h
      refine WpOps.pn 1 rfl trivial ?_
      refine WpOps.consE (v := (bA r_9)) rfl rfl (Exact.call rfl rfl rfl (w_pptok_letter hr_8)) ?_
      obtain ⟨b_5, g_6, h⟩ := Sh.bind_some h
      refine WpOps.cutB 4 49 (bA b_5) rfl ?_ ?_
      ·
        refine WpOps.pn 1 rfl trivial ?_
        refine WpOps.split 46 rfl (fun hb => ?_) (fun hb => ?_)
        ·
          replace g_6 := Sh.ite_pos hb g_6
          refine WpOps.pn 3 rfl trivial ?_
          refine WpOps.nil ?_
          obtain rfl := Sh.some_inj g_6
          exact ⟨rfl, rfl⟩
        ·
          replace g_6 := Sh.ite_neg hb g_6
          obtain ⟨r_10, hr_9, g_6⟩ := Sh.bind_some g_6
          refine WpOps.pn 1 rfl trivial ?_
          refine WpOps.consE (v := (bA r_10)) rfl rfl (Exact.call rfl rfl rfl (w_pptok_digit hr_9)) ?_
          refine WpOps.pn 1 rfl trivial ?_
          refine WpOps.nil ?_
          obtain rfl := Sh.some_inj g_6
          exact ⟨rfl, rfl⟩
      intro env
      obtain ⟨b_6, g_7, h⟩ := Sh.bind_some h
      refine WpOps.cutB 4 53 (bA b_6) rfl ?_ ?_
      ·
        refine WpOps.pn 1 rfl trivial ?_
        refine WpOps.split 50 rfl (fun hb => ?_) (fun hb => ?_)
        ·
          replace g_7 := Sh.ite_pos hb g_7
          refine WpOps.pn 3 rfl trivial ?_
          refine WpOps.nil ?_
          obtain rfl := Sh.some_inj g_7
          exact ⟨rfl, rfl⟩
        ·
          replace g_7 := Sh.ite_neg hb g_7
          refine WpOps.pn 3 rfl trivial ?_
          refine WpOps.nil ?_
          obtain rfl := Sh.some_inj g_7
          exact ⟨rfl, rfl⟩
      intro env
      refine WpOps.pn 1 rfl trivial ?_
      refine WpOps.nil ?_
      refine WpC.condB rfl (fun hb => ?_) (fun hb => ?_)
      ·
        replace h := Sh.ite_pos hb h
        refine WpC.regionD ?_
        obtain ⟨c_3, h⟩ := Sh.chk_some h
        refine WpOps.pn 3 rfl c_3 ?_
        refine WpOps.nil ?_
        obtain rfl := Sh.some_inj h
        exact ⟨_, (Heap.le_refl _), (n_1 + (1 : Int)), (), rfl, ⟨rfl, rfl, trivial⟩, hH⟩
      ·
        replace h := Sh.ite_neg hb h
        refine WpC.seqR ?_
        refine WpOps.pn 2 rfl trivial ?_
        refine WpOps.nil ?_
        obtain rfl := Sh.some_inj h
        have e := hd_1 _ rfl
        subst e
        have h := hk_1
        obtain rfl := Sh.some_inj h
        refine WpC.ret ?_
        exact VEnds.ret1 rfl rfl ⟨rfl, hH⟩

theorem w_pptok_reader_quoted {H : Heap} {g_1 : Nat} {r_1 : GPptok_reader} {quote_1 : UInt8} (hg : H g_1 = some (.cells 76 (cGPptok_reader r_1))) {r : Int} (h : pptok_reader_quoted r_1 quote_1 = some r) : TCall Tryd.prog 52 [(.lit (.pointer (some ⟨g_1, 0, none⟩))), (u8A quote_1)] H (fun v H' => v = (iA r) ∧ H' = H) noE := by
  obtain ⟨H0, hH⟩ : ∃ H0, Holds H0 [.cell g_1 76 (cGPptok_reader r_1)] H := ⟨_, Holds.of_cell hg⟩
  refine TCall.held hH (id (TCall.body Tryd.func52 rfl rfl ?_))
  refine WpC.seqR ?_
  refine WpOps.pn 1 rfl trivial ?_
  refine WpOps.nil ?_
  refine WpC.seq ?_
  refine WpC.seqD [.I, .I, .I, .S, .I, .I, .I, .S, .I, .I, .I, .I, .S] [0, 1, 2, 3, 4, 5, 6, 7, 8, 9, 10, 11, 12, 13, 14, 15] (by kernel_rfl) (by kernel_rfl) ?_
  refine WpPi.pn 3 rfl trivial ?_
  refine WpPi.consS (v := (iA r_1.at_)) rfl rfl rfl rfl (Exact.load rfl rfl (hH.cell (i := 0) rfl) rfl rfl) ?_
  refine WpPi.pn 3 rfl trivial ?_
  refine WpPi.consS (v := (sA r_1.s)) rfl rfl rfl rfl (Exact.load rfl rfl (hH.cell (i := 0) rfl) rfl rfl) ?_
  refine WpPi.pn 2 rfl trivial ?_
  obtain ⟨b_1, g_2, h⟩ := Sh.bind_some h
  refine WpPi.cutB 6 21 (bA b_1) rfl ?_ ?_
  ·
    refine WpPi.pn 1 rfl trivial ?_
    refine WpPi.split 16 rfl (fun hb => ?_) (fun hb => ?_)
    ·
      replace g_2 := Sh.ite_pos hb g_2
      refine WpPi.pn 1 rfl trivial ?_
      refine WpPi.skip rfl rfl rfl ?_
      refine WpPi.pn 3 rfl trivial ?_
      refine WpPi.nil ?_
      obtain rfl := Sh.some_inj g_2
      exact ⟨rfl, rfl⟩
    ·
      replace g_2 := Sh.ite_neg hb g_2
      obtain ⟨r_2, hr_1, g_2⟩ := Sh.bind_some g_2
      refine WpPi.pn 1 rfl trivial ?_
      refine WpPi.consS (v := (u8A r_2)) rfl rfl rfl rfl (Exact.call rfl rfl rfl (w_pptok_reader_byte (hH.cell (i := 0) rfl) hr_1)) ?_
      refine WpPi.pn 3 rfl trivial ?_
      refine WpPi.nil ?_
      obtain rfl := Sh.some_inj g_2
      exact ⟨rfl, rfl⟩
  intro env
  refine WpPi.nil ?_
  refine WpC.condB rfl (fun hb => ?_) (fun hb => ?_)
  ·
    replace h := Sh.ite_pos hb h
    refine WpC.seqR ?_
    refine WpOps.pn 1 rfl trivial ?_
    refine WpOps.nil ?_
    obtain rfl := Sh.some_inj h
    refine WpC.ret ?_
    exact VEnds.ret1 rfl rfl ⟨rfl, hH⟩
  ·
    replace h := Sh.ite_neg hb h
    refine WpC.skipD ?_
    refine ⟨_, Heap.le_refl _, ?_⟩
    refine WpC.seq ?_
    refine WpC.seqR ?_
    refine WpOps.pn 1 rfl trivial ?_
    refine WpOps.nil ?_
    refine WpC.blockK (fun x : (Unit) × (Unit) => []) (fun x H' => pptok_reader_quoted_j1 x.1 = some r ∧ Holds H0 [.cell g_1 76 (cGPptok_reader r_1)] H') ?_ ?_
    ·
      obtain ⟨o_1, ho_1, hk_1⟩ := Sh.bind_some h
      refine WpC.loopS (pptok_reader_quoted_b2 r_1 quote_1) (fun (s : Int) (a : Unit) => [(0, (.lit (.pointer (some ⟨g_1, 0, none⟩)))), (1, (u8A quote_1)), (5, (iA s))]) (fun (s : Int) (a : Unit) H' => Holds H0 [.cell g_1 76 (cGPptok_reader r_1)] H') o_1 (1 : Int) () ho_1 ⟨rfl, rfl, rfl, trivial⟩ hH ?_
      rintro n_1 _ st_1 env H' h hd_1 hH
      refine WpC.seq ?_
      refine WpC.seqD [.I, .I, .I, .S, .I, .I, .I, .I, .I, .S] [0, 1, 2, 3, 4, 5, 6, 7, 8, 9, 10, 11] (by kernel_rfl) (by kernel_rfl) ?_
      refine WpPi.pn 3 rfl trivial ?_
      refine WpPi.consS (v := (iA r_1.at_)) rfl rfl rfl rfl (Exact.load rfl rfl (hH.cell (i := 0) rfl) rfl rfl) ?_
      obtain ⟨c_1, h⟩ := Sh.chk_some h
      refine WpPi.pn 5 rfl c_1 ?_
      refine WpPi.consS (v := (sA r_1.s)) rfl rfl rfl rfl (Exact.load rfl rfl (hH.cell (i := 0) rfl) rfl rfl) ?_
      refine WpPi.pn 2 rfl trivial ?_
      refine WpPi.nil ?_
      refine WpC.condB rfl (fun hb => ?_) (fun hb => ?_)
      ·
        replace h := Sh.ite_pos hb h
        refine WpC.skipD ?_
        refine ⟨_, Heap.le_refl _, ?_⟩
        refine WpC.seq ?_
        refine WpC.block ?_
        refine WpC.seqR ?_
        obtain ⟨r_3, hr_2, h⟩ := Sh.bind_some h
        refine WpOps.pn 2 rfl trivial ?_
        refine WpOps.consE (v := (u8A r_3)) rfl rfl (Exact.call rfl rfl rfl (w_pptok_reader_byte (hH.cell (i := 0) rfl) hr_2)) ?_
        refine WpOps.nil ?_
        refine WpC.block ?_
        refine WpC.seqR ?_
        refine WpOps.pn 3 rfl trivial ?_
        refine WpOps.nil ?_
        refine WpC.condB rfl (fun hb => ?_) (fun hb => ?_)
        ·
          replace h := Sh.ite_pos hb h
          refine WpC.seq ?_
          refine WpC.seqR ?_
          refine WpOps.pn 2 rfl trivial ?_
          obtain ⟨b_2, g_3, h⟩ := Sh.bind_some h
          refine WpOps.cutB 4 47 (bA b_2) rfl ?_ ?_
          ·
            refine WpOps.pn 1 rfl trivial ?_
            refine WpOps.split 44 rfl (fun hb => ?_) (fun hb => ?_)
            ·
              replace g_3 := Sh.ite_pos hb g_3
              refine WpOps.pn 3 rfl trivial ?_
              refine WpOps.nil ?_
              obtain rfl := Sh.some_inj g_3
              exact ⟨rfl, rfl⟩
            ·
              replace g_3 := Sh.ite_neg hb g_3
              refine WpOps.pn 3 rfl trivial ?_
              refine WpOps.nil ?_
              obtain rfl := Sh.some_inj g_3
              exact ⟨rfl, rfl⟩
          intro env
          refine WpOps.nil ?_
          refine WpC.condB rfl (fun hb => ?_) (fun hb => ?_)
          ·
            replace h := Sh.ite_pos hb h
            refine WpC.seqR ?_
            refine WpOps.pn 1 rfl trivial ?_
            refine WpOps.nil ?_
            obtain rfl := Sh.some_inj h
            have e := hd_1 _ rfl
            subst e
            have h := hk_1
            obtain rfl := Sh.some_inj h
            refine WpC.ret ?_
            exact VEnds.ret1 rfl rfl ⟨rfl, hH⟩
          ·
            replace h := Sh.ite_neg hb h
            refine WpC.skipD ?_
            refine ⟨_, Heap.le_refl _, ?_⟩
            refine WpC.seqR ?_
            obtain ⟨c_2, h⟩ := Sh.chk_some h
            refine WpOps.pn 3 rfl c_2 ?_
            refine WpOps.nil ?_
            obtain rfl := Sh.some_inj h
            have e := hd_1 _ rfl
            subst e
            have h := hk_1
            obtain rfl := Sh.some_inj h
            refine WpC.ret ?_
            exact VEnds.ret1 rfl rfl ⟨rfl, hH⟩
        ·
          replace h := Sh.ite_neg hb h
          refine WpC.seqR ?_
          refine WpOps.pn 2 rfl trivial ?_
          refine WpOps.nil ?_
          refine WpC.condB rfl (fun hb => ?_) (fun hb => ?_)
          ·
            replace h := Sh.ite_pos hb h
            refine WpC.seqR ?_
            refine WpOps.pn 1 rfl trivial ?_
            refine WpOps.nil ?_
            obtain rfl := Sh.some_inj h
            have e := hd_1 _ rfl
            subst e
            have h := hk_1
            obtain rfl := Sh.some_inj h
            refine WpC.ret ?_
            exact VEnds.ret1 rfl rfl ⟨rfl, hH⟩
          ·
            replace h := Sh.ite_neg hb h
            refine WpC.seqR ?_
            refine WpOps.pn 2 rfl trivial ?_
            refine WpOps.nil ?_
            refine WpC.condB rfl (fun hb => ?_) (fun hb => ?_)
            ·
              replace h := Sh.ite_pos hb h
              refine WpC.seqR ?_
              obtain ⟨c_3, h⟩ := Sh.chk_some h
              refine WpOps.pn 3 rfl c_3 ?_
              refine WpOps.nil ?_
              refine WpC.seqD [.I, .I, .S, .I, .I, .I, .I, .I, .S, .I, .I, .I, .I, .I, .S] [0, 1, 2, 3, 4, 5, 6, 7, 8, 9, 10, 11, 12, 13, 14, 15, 16, 17] (by kernel_rfl) (by kernel_rfl) ?_
              obtain ⟨r_4, hr_3, h⟩ := Sh.bind_some h
              refine WpPi.pn 2 rfl trivial ?_
              refine WpPi.consS (v := (u8A r_4)) rfl rfl rfl rfl (Exact.call rfl rfl rfl (w_pptok_reader_byte (hH.cell (i := 0) rfl) hr_3)) ?_
              refine WpPi.pn 1 rfl trivial ?_
              obtain ⟨b_3, g_4, h⟩ := Sh.bind_some h
              refine WpPi.cutB 14 73 (bA b_3) rfl ?_ ?_
              ·
                refine WpPi.pn 1 rfl trivial ?_
                refine WpPi.split 60 rfl (fun hb => ?_) (fun hb => ?_)
                ·
                  replace g_4 := Sh.ite_pos hb g_4
                  refine WpPi.pn 3 rfl trivial ?_
                  refine WpPi.consS (v := (iA r_1.at_)) rfl rfl rfl rfl (Exact.load rfl rfl (hH.cell (i := 0) rfl) rfl rfl) ?_
                  obtain ⟨c_4, g_4⟩ := Sh.chk_some g_4
                  refine WpPi.pn 5 rfl c_4 ?_
                  refine WpPi.consS (v := (sA r_1.s)) rfl rfl rfl rfl (Exact.load rfl rfl (hH.cell (i := 0) rfl) rfl rfl) ?_
                  refine WpPi.pn 3 rfl trivial ?_
                  refine WpPi.nil ?_
                  obtain rfl := Sh.some_inj g_4
                  exact ⟨rfl, rfl⟩
                ·
                  replace g_4 := Sh.ite_neg hb g_4
                  refine WpPi.pn 3 rfl trivial ?_
                  refine WpPi.skip rfl rfl rfl ?_
                  refine WpPi.pn 5 rfl trivial ?_
                  refine WpPi.skip rfl rfl rfl ?_
                  refine WpPi.pn 3 rfl trivial ?_
                  refine WpPi.nil ?_
                  obtain rfl := Sh.some_inj g_4
                  exact ⟨rfl, rfl⟩
              intro env
              refine WpPi.nil ?_
              refine WpC.condB rfl (fun hb => ?_) (fun hb => ?_)
              ·
                replace h := Sh.ite_pos hb h
                refine WpC.seqR ?_
                refine WpOps.pn 1 rfl trivial ?_
                refine WpOps.nil ?_
                obtain rfl := Sh.some_inj h
                have e := hd_1 _ rfl
                subst e
                have h := hk_1
                obtain rfl := Sh.some_inj h
                refine WpC.ret ?_
                exact VEnds.ret1 rfl rfl ⟨rfl, hH⟩
              ·
                replace h := Sh.ite_neg hb h
                refine WpC.skipD ?_
                refine ⟨_, Heap.le_refl _, ?_⟩
                refine WpC.regionD ?_
                obtain ⟨c_5, h⟩ := Sh.chk_some h
                refine WpOps.pn 3 rfl c_5 ?_
                refine WpOps.nil ?_
                obtain rfl := Sh.some_inj h
                exact ⟨_, (Heap.le_refl _), ((n_1 + (1 : Int)) + (1 : Int)), (), rfl, ⟨rfl, rfl, rfl, trivial⟩, hH⟩
            ·
              replace h := Sh.ite_neg hb h
              refine WpC.skipD ?_
              refine ⟨_, Heap.le_refl _, ?_⟩
              refine WpC.regionD ?_
              obtain ⟨c_6, h⟩ := Sh.chk_some h
              refine WpOps.pn 3 rfl c_6 ?_
              refine WpOps.nil ?_
              obtain rfl := Sh.some_inj h
              exact ⟨_, (Heap.le_refl _), (n_1 + (1 : Int)), (), rfl, ⟨rfl, rfl, rfl, trivial⟩, hH⟩
      ·
        replace h := Sh.ite_neg hb h
        obtain rfl := Sh.some_inj h
        have e := hd_1 _ rfl
        subst e
        refine WpC.exit ?_
        exact ⟨((), ()), trivial, hk_1, hH⟩
    ·
      rintro ⟨_, _⟩ env H' ⟨h, hH⟩
      try dsimp only at h
      refine ⟨_, Heap.le_refl _, ?_⟩
      refine WpC.seqR ?_
      refine WpOps.pn 1 rfl trivial ?_
      refine WpOps.nil ?_
      obtain rfl := Sh.some_inj h
      refine WpC.ret ?_
      exact VEnds.ret1 rfl rfl ⟨rfl, hH⟩

theorem w_pptok_reader_sign {H : Heap} (hG : Glob H) {g_1 : Nat} {r_1 : GPptok_reader} (hg : H g_1 = some (.cells 76 (cGPptok_reader r_1))) {r : Int} (h : pptok_reader_sign r_1 = some r) : TCall Tryd.prog 53 [(.lit (.pointer (some ⟨g_1, 0, none⟩)))] H (fun v H' => v = (iA r) ∧ H' = H) noE := by
  obtain ⟨H0, hH⟩ : ∃ H0, Holds H0 [.cell g_1 76 (cGPptok_reader r_1)] H := ⟨_, Holds.of_cell hg⟩
  have hG := hG.held hH
  refine TCall.held hH (id (TCall.body Tryd.func53 rfl rfl ?_))
  refine WpC.seqR ?_
  refine WpOps.pn 1 rfl trivial ?_
  refine WpOps.nil ?_
  refine WpC.scope ?_
  refine WpC.seqR ?_
  refine WpOps.pn 1 rfl trivial ?_
  refine WpOps.nil ?_
  refine WpC.seq (WpC.label ?_)
  refine WpC.seq ?_
  refine WpC.seqR ?_
  refine WpOps.consE (v := (AV.agg (List.map (fun y => (sA y)) signs))) rfl rfl (Exact.load rfl rfl (hG.up hH).signs rfl (by kernel_rfl)) ?_
  refine WpOps.pn 1 rfl trivial ?_
  refine WpOps.nil ?_
  refine WpC.blockK (fun x : (Int) × (Unit) => [(3, (iA x.1))]) (fun x H' => pptok_reader_sign_j1 x.1 = some r ∧ Holds H0 [.cell g_1 76 (cGPptok_reader r_1)] H') ?_ ?_
  ·
    obtain ⟨o_1, ho_1, hk_1⟩ := Sh.bind_some h
    refine WpC.loopS (pptok_reader_sign_b2 r_1) (fun (s : Int × Int) (a : Unit) => [(0, (.lit (.pointer (some ⟨g_1, 0, none⟩)))), (3, (iA s.1)), (6, (AV.agg (List.map (fun y => (sA y)) signs))), (7, (iA s.2))]) (fun (s : Int × Int) (a : Unit) H' => Holds H0 [.cell g_1 76 (cGPptok_reader r_1)] H') o_1 ((0 : Int), (0 : Int)) () ho_1 ⟨rfl, rfl, rfl, rfl, trivial⟩ hH ?_
    rintro ⟨n_1, t7_1⟩ _ st_1 env H' h hd_1 hH
    refine WpC.seqR ?_
    refine WpOps.pn 1 rfl trivial ?_
    refine WpOps.nil ?_
    refine WpC.seq ?_
    refine WpC.condB rfl (fun hb => ?_) (fun hb => ?_)
    ·
      replace h := Sh.ite_pos hb h
      refine WpC.skipD ?_
      refine ⟨_, Heap.le_refl _, ?_⟩
      refine WpC.seq ?_
      refine WpC.block ?_
      refine WpC.seqR ?_
      obtain ⟨y_1, hy_1, h⟩ := Sh.bind_some h
      refine WpOps.consE (v := (sA y_1)) rfl rfl (Exact.ixa (fun y => (sA y)) hy_1 rfl rfl rfl rfl rfl (by kernel_rfl) rfl) ?_
      refine WpOps.pn 1 rfl trivial ?_
      refine WpOps.nil ?_
      refine WpC.seq ?_
      refine WpC.seqR ?_
      refine WpOps.pn 4 rfl trivial ?_
      obtain ⟨b_1, g_2, h⟩ := Sh.bind_some h
      refine WpOps.cutB 6 19 (bA b_1) rfl ?_ ?_
      ·
        refine WpOps.pn 1 rfl trivial ?_
        refine WpOps.split 14 rfl (fun hb => ?_) (fun hb => ?_)
        ·
          replace g_2 := Sh.ite_pos hb g_2
          refine WpOps.pn 5 rfl trivial ?_
          refine WpOps.nil ?_
          obtain rfl := Sh.some_inj g_2
          exact ⟨rfl, rfl⟩
        ·
          replace g_2 := Sh.ite_neg hb g_2
          obtain ⟨r_2, hr_1, g_2⟩ := Sh.bind_some g_2
          refine WpOps.pn 2 rfl trivial ?_
          refine WpOps.consE (v := (bA r_2)) rfl rfl (Exact.call rfl rfl rfl (w_pptok_reader_has (hH.cell (i := 0) rfl) hr_1)) ?_
          refine WpOps.pn 2 rfl trivial ?_
          refine WpOps.nil ?_
          obtain rfl := Sh.some_inj g_2
          exact ⟨rfl, rfl⟩
      intro env
      refine WpOps.nil ?_
      refine WpC.condB rfl (fun hb => ?_) (fun hb => ?_)
      ·
        replace h := Sh.ite_pos hb h
        refine WpC.exitD ?_
        refine ⟨_, Heap.le_refl _, ?_⟩
        refine WpC.regionD ?_
        obtain ⟨c_1, h⟩ := Sh.chk_some h
        refine WpOps.pn 2 rfl c_1 ?_
        refine WpOps.nil ?_
        obtain rfl := Sh.some_inj h
        exact ⟨_, (Heap.le_refl _), (n_1, (t7_1 + (1 : Int))), (), rfl, ⟨rfl, rfl, rfl, rfl, trivial⟩, hH⟩
      ·
        replace h := Sh.ite_neg hb h
        refine WpC.skipD ?_
        refine ⟨_, Heap.le_refl _, ?_⟩
        refine WpC.regionD ?_
        refine WpOps.pn 3 rfl trivial ?_
        refine WpOps.nil ?_
        refine ⟨_, Heap.le_refl _, ?_⟩
        refine WpC.regionD ?_
        obtain ⟨c_2, h⟩ := Sh.chk_some h
        refine WpOps.pn 2 rfl c_2 ?_
        refine WpOps.nil ?_
        obtain rfl := Sh.some_inj h
        exact ⟨_, (Heap.le_refl _), ((y_1.length : Int), (t7_1 + (1 : Int))), (), rfl, ⟨rfl, rfl, rfl, rfl, trivial⟩, hH⟩
    ·
      replace h := Sh.ite_neg hb h
      obtain rfl := Sh.some_inj h
      have e := hd_1 _ rfl
      subst e
      refine WpC.exit ?_
      exact ⟨(n_1, ()), ⟨rfl, trivial⟩, hk_1, hH⟩
  ·
    rintro ⟨n_2, _⟩ env H' ⟨h, hH⟩
    try dsimp only at h
    refine ⟨_, Heap.le_refl _, ?_⟩
    refine WpC.seqR ?_
    refine WpOps.pn 2 rfl trivial ?_
    refine WpOps.nil ?_
    obtain rfl := Sh.some_inj h
    refine WpC.ret ?_
    exact VEnds.ret1 rfl rfl ⟨rfl, hH⟩

theorem w_pptok_reader_next {H : Heap} (hG : Glob H) {g_1 : Nat} {r_1 : GPptok_reader} (hg : H g_1 = some (.cells 76 (cGPptok_reader r_1))) {r : Int × Int} (h : pptok_reader_next r_1 = some r) : TCall Tryd.prog 36 [(.lit (.pointer (some ⟨g_1, 0, none⟩)))] H (fun v H' => v = (.tup [(iA r.1), (iA r.2)]) ∧ H' = H) noE := by
  obtain ⟨H0, hH⟩ : ∃ H0, Holds H0 [.cell g_1 76 (cGPptok_reader r_1)] H := ⟨_, Holds.of_cell hg⟩
  have hG := hG.held hH
  refine TCall.held hH (id (TCall.body Tryd.func36 rfl rfl ?_))
  refine WpC.seqR ?_
  refine WpOps.pn 2 rfl trivial ?_
  refine WpOps.nil ?_
  refine WpC.seq ?_
  refine WpC.seqR ?_
  obtain ⟨r_2, hr_1, h⟩ := Sh.bind_some h
  refine WpOps.pn 1 rfl trivial ?_
  refine WpOps.consE (v := (bA r_2)) rfl rfl (Exact.call rfl rfl rfl (w_pptok_reader_has (hH.cell (i := 0) rfl) hr_1)) ?_
  refine WpOps.nil ?_
  refine WpC.condB rfl (fun hb => ?_) (fun hb => ?_)
  ·
    replace h := Sh.ite_pos hb h
    refine WpC.seqR ?_
    refine WpOps.pn 2 rfl trivial ?_
    refine WpOps.nil ?_
    obtain rfl := Sh.some_inj h
    refine WpC.ret ?_
    exact VEnds.ret2 rfl rfl rfl ⟨rfl, hH⟩
  ·
    replace h := Sh.ite_neg hb h
    refine WpC.skipD ?_
    refine ⟨_, Heap.le_refl _, ?_⟩
    refine WpC.seq ?_
    refine WpC.seqR ?_
    obtain ⟨r_3, hr_2, h⟩ := Sh.bind_some h
    refine WpOps.pn 1 rfl trivial ?_
    refine WpOps.consE (v := (iA r_3)) rfl rfl (Exact.call rfl rfl rfl (w_pptok_reader_word (hH.cell (i := 0) rfl) hr_2)) ?_
    refine WpOps.pn 1 rfl trivial ?_
    refine WpOps.nil ?_
    refine WpC.seqR ?_
    refine WpOps.pn 2 rfl trivial ?_
    refine WpOps.nil ?_
    refine WpC.condB rfl (fun hb => ?_) (fun hb => ?_)
    ·
      replace h := Sh.ite_pos hb h
      refine WpC.seqR ?_
      refine WpOps.pn 3 rfl trivial ?_
      refine WpOps.nil ?_
      obtain rfl := Sh.some_inj h
      refine WpC.ret ?_
      exact VEnds.ret2 rfl rfl rfl ⟨rfl, hH⟩
    ·
      replace h := Sh.ite_neg hb h
      refine WpC.skipD ?_
      refine ⟨_, Heap.le_refl _, ?_⟩
      refine WpC.seq ?_
      refine WpC.seqR ?_
      obtain ⟨r_4, hr_3, h⟩ := Sh.bind_some h
      refine WpOps.pn 1 rfl trivial ?_
      refine WpOps.consE (v := (iA r_4)) rfl rfl (Exact.call rfl rfl rfl (w_pptok_reader_number (hH.cell (i := 0) rfl) hr_3)) ?_
      refine WpOps.pn 1 rfl trivial ?_
      refine WpOps.nil ?_
      refine WpC.seqR ?_
      refine WpOps.pn 2 rfl trivial ?_
      refine WpOps.nil ?_
      refine WpC.condB rfl (fun hb => ?_) (fun hb => ?_)
      ·
        replace h := Sh.ite_pos hb h
        refine WpC.seqR ?_
        refine WpOps.pn 3 rfl trivial ?_
        refine WpOps.nil ?_
        obtain rfl := Sh.some_inj h
        refine WpC.ret ?_
        exact VEnds.ret2 rfl rfl rfl ⟨rfl, hH⟩
      ·
        replace h := Sh.ite_neg hb h
        refine WpC.skipD ?_
        refine ⟨_, Heap.le_refl _, ?_⟩
        refine WpC.seq ?_
        refine WpC.seqR ?_
        obtain ⟨r_5, hr_4, h⟩ := Sh.bind_some h
        refine WpOps.pn 1 rfl trivial ?_
        refine WpOps.consE (v := (iA r_5)) rfl rfl (Exact.call rfl rfl rfl (w_pptok_reader_quoted (hH.cell (i := 0) rfl) hr_4)) ?_
        refine WpOps.pn 1 rfl trivial ?_
        refine WpOps.nil ?_
        refine WpC.seqR ?_
        refine WpOps.pn 2 rfl trivial ?_
        refine WpOps.nil ?_
        refine WpC.condB rfl (fun hb => ?_) (fun hb => ?_)
        ·
          replace h := Sh.ite_pos hb h
          refine WpC.seqR ?_
          refine WpOps.pn 3 rfl trivial ?_
          refine WpOps.nil ?_
          obtain rfl := Sh.some_inj h
          refine WpC.ret ?_
          exact VEnds.ret2 rfl rfl rfl ⟨rfl, hH⟩
        ·
          replace h := Sh.ite_neg hb h
          refine WpC.skipD ?_
          refine ⟨_, Heap.le_refl _, ?_⟩
          refine WpC.seq ?_
          refine WpC.seqR ?_
          obtain ⟨r_6, hr_5, h⟩ := Sh.bind_some h
          refine WpOps.pn 1 rfl trivial ?_
          refine WpOps.consE (v := (iA r_6)) rfl rfl (Exact.call rfl rfl rfl (w_pptok_reader_quoted (hH.cell (i := 0) rfl) hr_5)) ?_
          refine WpOps.pn 1 rfl trivial ?_
          refine WpOps.nil ?_
          refine WpC.seqR ?_
          refine WpOps.pn 2 rfl trivial ?_
          refine WpOps.nil ?_
          refine WpC.condB rfl (fun hb => ?_) (fun hb => ?_)
          ·
            replace h := Sh.ite_pos hb h
            refine WpC.seqR ?_
            refine WpOps.pn 3 rfl trivial ?_
            refine WpOps.nil ?_
            obtain rfl := Sh.some_inj h
            refine WpC.ret ?_
            exact VEnds.ret2 rfl rfl rfl ⟨rfl, hH⟩
          ·
            replace h := Sh.ite_neg hb h
            refine WpC.skipD ?_
            refine ⟨_, Heap.le_refl _, ?_⟩
            refine WpC.seq ?_
            refine WpC.seqR ?_
            obtain ⟨r_7, hr_6, h⟩ := Sh.bind_some h
            refine WpOps.pn 1 rfl trivial ?_
            refine WpOps.consE (v := (iA r_7)) rfl rfl (Exact.call rfl rfl rfl (w_pptok_reader_sign (hG.up hH) (hH.cell (i := 0) rfl) hr_6)) ?_
            refine WpOps.pn 1 rfl trivial ?_
            refine WpOps.nil ?_
            refine WpC.seqR ?_
            refine WpOps.pn 2 rfl trivial ?_
            refine WpOps.nil ?_
            refine WpC.condB rfl (fun hb => ?_) (fun hb => ?_)
            ·
              replace h := Sh.ite_pos hb h
              refine WpC.seqR ?_
              refine WpOps.pn 3 rfl trivial ?_
              refine WpOps.nil ?_
              obtain rfl := Sh.some_inj h
              refine WpC.ret ?_
              exact VEnds.ret2 rfl rfl rfl ⟨rfl, hH⟩
            ·
              replace h := Sh.ite_neg hb h
              refine WpC.skipD ?_
              refine ⟨_, Heap.le_refl _, ?_⟩
              refine WpC.seqR ?_
              refine WpOps.pn 2 rfl trivial ?_
              refine WpOps.nil ?_
              obtain rfl := Sh.some_inj h
              refine WpC.ret ?_
              exact VEnds.ret2 rfl rfl rfl ⟨rfl, hH⟩

theorem w_pptok_Tokens {H0 : Heap} (hG : Glob H0) {file_1 : Int} {text_1 : List UInt8} {r : List GTok} (h : pptok_Tokens file_1 text_1 = some r) : TCall Tryd.prog 21 [(iA file_1), (sA text_1)] H0 (fun v H' => v = (AV.rows 6 (List.map cGTok r)) ∧ H' = H0) noE := by
  refine id (TCall.body Tryd.func21 rfl rfl ?_)
  have hH : Holds H0 [] H0 := rfl
  refine WpC.seqR ?_
  refine WpOps.pn 1 rfl trivial ?_
  refine WpOps.nil ?_
  refine WpC.seqR ?_
  obtain ⟨r_1, hr_1, h⟩ := Sh.bind_some h
  refine WpOps.pn 1 rfl trivial ?_
  refine WpOps.consE (v := (AV.rows 2 (List.map cGChar r_1))) rfl rfl (Exact.call rfl rfl rfl (w_splice_Join hr_1)) ?_
  refine WpOps.pn 1 rfl trivial ?_
  refine WpOps.nil ?_
  refine WpC.seqR ?_
  obtain ⟨r_2, hr_2, h⟩ := Sh.bind_some h
  refine WpOps.pn 1 rfl trivial ?_
  refine WpOps.consE (v := (sA r_2)) rfl rfl (Exact.call rfl rfl rfl (w_splice_Text hr_2)) ?_
  refine WpOps.pn 1 rfl trivial ?_
  refine WpOps.consG rfl rfl (WpO.boxT (v := (AV.agg (cGPptok_reader (GPptok_reader.mk r_2 (0 : Int))))) rfl rfl hH fun g_1 H' hH => ?_)
  refine WpOps.pn 1 rfl trivial ?_
  refine WpOps.nil ?_
  refine WpC.seqR ?_
  refine WpOps.pn 1 rfl trivial ?_
  have hH := hH.nil 40 6
  refine WpOps.nil ?_
  refine WpC.block ?_
  obtain ⟨o_1, ho_1, hk_1⟩ := Sh.bind_some h
  refine WpC.loopS (pptok_Tokens_b1 file_1 r_1) (fun (s : List GTok × GPptok_reader) (a : (Option (Nat × Nat))) => [(0, (iA file_1)), (5, (AV.rows 2 (List.map cGChar r_1))), (6, (.lit (.pointer (some ⟨g_1, 0, none⟩)))), (7, (.own (List.map cGTok s.1).length a))]) (fun (s : List GTok × GPptok_reader) (a : (Option (Nat × Nat))) H' => Holds H0 [.own 40 6 a (List.map cGTok s.1), .cell g_1 76 (cGPptok_reader s.2)] H') o_1 (([] : List GTok), (GPptok_reader.mk r_2 (0 : Int))) none ho_1 ⟨rfl, rfl, rfl, rfl, trivial⟩ hH ?_
  rintro ⟨out_1, r_3⟩ p_1 st_1 env H' h hd_1 hH
  refine WpC.block ?_
  refine WpC.seqR ?_
  refine WpOps.pn 2 rfl trivial ?_
  refine WpOps.consG rfl rfl (WpO.allocT (z := cGTok (GTok.mk (0 : Int) ([] : List UInt8) (0 : Int) (0 : Int) (0 : Int) false)) rfl rfl hH fun g_2 H' hH => ?_)
  refine WpOps.consG rfl rfl (WpO.putT (cs' := (cGTok (GTok.mk (0 : Int) ([] : List UInt8) file_1 (0 : Int) (0 : Int) false))) (v := (AV.agg (cGTok (GTok.mk (0 : Int) ([] : List UInt8) file_1 (0 : Int) (0 : Int) false)))) rfl rfl hH (i := 0) rfl rfl rfl rfl rfl rfl rfl fun H' hH => ?_)
  refine WpOps.nil ?_
  refine WpC.seqB (fun x : (GTok × GPptok_reader) × (Unit) => [(0, (iA file_1)), (5, (AV.rows 2 (List.map cGChar r_1))), (6, (.lit (.pointer (some ⟨g_1, 0, none⟩)))), (7, (.own (List.map cGTok out_1).length p_1)), (8, (.lit (.pointer (some ⟨g_2, 0, none⟩))))]) (fun x H' => (pptok_Tokens_j2 r_1 out_1) x.1 = some st_1 ∧ Holds H0 [.cell g_2 40 (cGTok x.1.1), .own 40 6 p_1 (List.map cGTok out_1), .cell g_1 76 (cGPptok_reader x.1.2)] H') ?_ ?_
  ·
    obtain ⟨o_2, ho_2, hk_2⟩ := Sh.bind_some h
    refine WpC.loopS pptok_Tokens_b3 (fun (s : GTok × GPptok_reader) (a : Unit) => [(0, (iA file_1)), (5, (AV.rows 2 (List.map cGChar r_1))), (6, (.lit (.pointer (some ⟨g_1, 0, none⟩)))), (7, (.own (List.map cGTok out_1).length p_1)), (8, (.lit (.pointer (some ⟨g_2, 0, none⟩))))]) (fun (s : GTok × GPptok_reader) (a : Unit) H' => Holds H0 [.cell g_2 40 (cGTok s.1), .own 40 6 p_1 (List.map cGTok out_1), .cell g_1 76 (cGPptok_reader s.2)] H') o_2 ((GTok.mk (0 : Int) ([] : List UInt8) file_1 (0 : Int) (0 : Int) false), r_3) () ho_2 ⟨rfl, rfl, rfl, rfl, rfl, trivial⟩ hH ?_
    rintro ⟨t_1, r_4⟩ _ st_2 env H' h hd_2 hH
    refine WpC.seq ?_
    refine WpC.seqD [.I, .I, .I, .S, .I, .I, .I, .S, .I, .I, .I, .I, .E] [0, 1, 2, 3, 4, 5, 6, 7, 8, 9, 10, 11, 12, 13] (by kernel_rfl) (by kernel_rfl) ?_
    refine WpPi.pn 3 rfl trivial ?_
    refine WpPi.consS (v := (iA r_4.at_)) rfl rfl rfl rfl (Exact.load rfl rfl (hH.cell (i := 2) rfl) rfl rfl) ?_
    refine WpPi.pn 3 rfl trivial ?_
    refine WpPi.consS (v := (sA r_4.s)) rfl rfl rfl rfl (Exact.load rfl rfl (hH.cell (i := 2) rfl) rfl rfl) ?_
    refine WpPi.pn 2 rfl trivial ?_
    refine WpPi.pn 1 rfl trivial ?_
    refine WpPi.split 29 rfl (fun hb => ?_) (fun hb => ?_)
    ·
      replace h := Sh.ite_pos hb h
      obtain ⟨r_5, hr_3, h⟩ := Sh.bind_some h
      refine WpPi.pn 1 rfl trivial ?_
      refine WpPi.consE rfl rfl rfl rfl (WpO.callT (v := (bA r_5.1)) rfl rfl rfl hH (i := 2) rfl (fun H1 hl hh => w_pptok_reader_blank (hG.le hl) hh hr_3) fun H' hH => ?_)
      refine WpPi.pn 1 rfl trivial ?_
      refine WpPi.nil ?_
      refine WpC.condB rfl (fun hb => ?_) (fun hb => ?_)
      ·
        replace h := Sh.ite_pos hb h
        refine WpC.skipD ?_
        refine ⟨_, Heap.le_refl _, ?_⟩
        refine WpC.block ?_
        refine WpC.regionD ?_
        refine WpOps.pn 1 rfl trivial ?_
        refine WpOps.consG rfl rfl (WpO.putT (cs' := (cGTok (GTok.mk t_1.kind t_1.text t_1.file_ t_1.from_ t_1.to true))) (v := (bA true)) rfl rfl hH (i := 0) rfl rfl rfl rfl rfl rfl rfl fun H' hH => ?_)
        refine WpOps.nil ?_
        obtain rfl := Sh.some_inj h
        exact ⟨_, (Heap.le_refl _), ((GTok.mk t_1.kind t_1.text t_1.file_ t_1.from_ t_1.to true), r_5.2), (), rfl, ⟨rfl, rfl, rfl, rfl, rfl, trivial⟩, hH⟩
      ·
        replace h := Sh.ite_neg hb h
        obtain rfl := Sh.some_inj h
        have e := hd_2 _ rfl
        subst e
        refine WpC.exit ?_
        exact ⟨((t_1, r_5.2), ()), ⟨rfl, rfl, rfl, rfl, rfl, trivial⟩, hk_2, hH⟩
    ·
      replace h := Sh.ite_neg hb h
      refine WpPi.pn 1 rfl trivial ?_
      refine WpPi.skip rfl rfl rfl ?_
      refine WpPi.pn 1 rfl trivial ?_
      refine WpPi.nil ?_
      refine WpC.condF rfl ?_
      obtain rfl := Sh.some_inj h
      have e := hd_2 _ rfl
      subst e
      refine WpC.exit ?_
      exact ⟨((t_1, r_4), ()), ⟨rfl, rfl, rfl, rfl, rfl, trivial⟩, hk_2, hH⟩
  ·
    rintro ⟨⟨l_1, r_6⟩, _⟩ env H' ⟨h, hH⟩
    try dsimp only at h
    refine WpC.seq ?_
    refine WpC.seqD [.I, .I, .I, .S, .I, .I, .I, .S] [0, 1, 2, 3, 4, 5, 6, 7, 8, 9] (by kernel_rfl) (by kernel_rfl) ?_
    refine WpPi.pn 3 rfl trivial ?_
    refine WpPi.consS (v := (iA r_6.at_)) rfl rfl rfl rfl (Exact.load rfl rfl (hH.cell (i := 2) rfl) rfl rfl) ?_
    refine WpPi.pn 3 rfl trivial ?_
    refine WpPi.consS (v := (sA r_6.s)) rfl rfl rfl rfl (Exact.load rfl rfl (hH.cell (i := 2) rfl) rfl rfl) ?_
    refine WpPi.pn 2 rfl trivial ?_
    refine WpPi.nil ?_
    refine WpC.condB rfl (fun hb => ?_) (fun hb => ?_)
    ·
      replace h := Sh.ite_pos hb h
      refine WpC.seqR ?_
      refine WpOps.pn 2 rfl trivial ?_
      refine WpOps.nil ?_
      refine WpC.freeze (t := 4) (i := 1) hH rfl rfl (fun H' hH => ?_)
      refine WpC.lose (i := 0) hH rfl (fun H' hH => ?_)
      refine WpC.lose (i := 0) hH rfl (fun H' hH => ?_)
      obtain rfl := Sh.some_inj h
      have e := hd_1 _ rfl
      subst e
      have h := hk_1
      obtain rfl := Sh.some_inj h
      refine WpC.ret ?_
      exact VEnds.ret1 rfl rfl ⟨rfl, hH⟩
    ·
      replace h := Sh.ite_neg hb h
      refine WpC.skipD ?_
      refine ⟨_, Heap.le_refl _, ?_⟩
      refine WpC.seqR ?_
      obtain ⟨r_7, hr_4, h⟩ := Sh.bind_some h
      refine WpOps.pn 1 rfl trivial ?_
      refine WpOps.consE (v := (.tup [(iA r_7.1), (iA r_7.2)])) rfl rfl (Exact.call rfl rfl rfl (w_pptok_reader_next (hG.up hH) (hH.cell (i := 2) rfl) hr_4)) ?_
      refine WpOps.pn 5 rfl trivial ?_
      refine WpOps.nil ?_
      refine WpC.seqDI (fun H => H g_1 = some (.cells 76 (cGPptok_reader r_6)) ∧ Glob H ∧ True) [.I, .I, .I, .I, .I, .I, .I, .I, .I, .I, .I, .I, .I, .I, .I, .I, .I, .E, .I, .E] [0, 1, 2, 3, 4, 5, 6, 7, 8, 9, 10, 11, 12, 13, 14, 15, 16, 17, 18, 19] (by kernel_rfl) (by kernel_rfl) ⟨hH.cell (i := 2) rfl, hG.up hH, trivial⟩ ?_
      refine WpPi.pn 4 rfl trivial ?_
      refine WpPi.consV (v := (sA r_6.s)) rfl rfl rfl rfl (fun _ hi => Exact.load rfl rfl hi.1 rfl rfl) ?_
      refine WpPi.pn 3 rfl trivial ?_
      refine WpPi.consV (v := (iA r_6.at_)) rfl rfl rfl rfl (fun _ hi => Exact.load rfl rfl hi.1 rfl rfl) ?_
      refine WpPi.pn 3 rfl trivial ?_
      refine WpPi.consV (v := (iA r_6.at_)) rfl rfl rfl rfl (fun _ hi => Exact.load rfl rfl hi.1 rfl rfl) ?_
      obtain ⟨c_1, h⟩ := Sh.chk_some h
      obtain ⟨c_2, h⟩ := Sh.chk_some h
      refine WpPi.pn 2 rfl c_1 ?_
      refine WpPi.pn 1 rfl (show 0 ≤ r_6.at_ ∧ 0 ≤ (r_6.at_ + r_7.2) ∧ ((r_6.at_).toNat ≤ ((r_6.at_ + r_7.2)).toNat ∧ ((r_6.at_ + r_7.2)).toNat ≤ r_6.s.length) from ⟨(by omega), (by omega), (by omega)⟩) ?_
      refine WpPi.pn 1 rfl trivial ?_
      refine WpPi.consF rfl rfl rfl rfl (WpO.putT (cs' := (cGTok (GTok.mk r_7.1 l_1.text l_1.file_ l_1.from_ l_1.to l_1.blank))) (v := (iA r_7.1)) rfl rfl hH (i := 0) rfl rfl rfl rfl rfl rfl rfl fun H' hH => ⟨⟨hH.cell (i := 2) rfl, hG.up hH, trivial⟩, ?_⟩)
      refine WpPi.pn 1 rfl trivial ?_
      refine WpPi.consF rfl rfl rfl rfl (WpO.putT (cs' := (cGTok (GTok.mk r_7.1 ((r_6.s.drop (r_6.at_).toNat).take (((r_6.at_ + r_7.2)).toNat - (r_6.at_).toNat)) l_1.file_ l_1.from_ l_1.to l_1.blank))) (v := (sA ((r_6.s.drop (r_6.at_).toNat).take (((r_6.at_ + r_7.2)).toNat - (r_6.at_).toNat)))) rfl rfl hH (i := 0) rfl rfl rfl rfl rfl rfl rfl fun H' hH => ⟨⟨hH.cell (i := 2) rfl, hG.up hH, trivial⟩, ?_⟩)
      refine WpPi.nil ?_
      refine WpC.seqDI (fun H => H g_1 = some (.cells 76 (cGPptok_reader r_6)) ∧ Glob H ∧ True) [.I, .I, .I, .I, .I, .I, .I, .I, .I, .I, .I, .I, .I, .I, .I, .I, .I, .I, .I, .I, .I, .E, .I, .E] [0, 1, 2, 3, 4, 5, 6, 7, 8, 9, 10, 11, 12, 13, 14, 15, 16, 17, 18, 19, 20, 21, 22, 23] (by kernel_rfl) (by kernel_rfl) ⟨hH.cell (i := 2) rfl, hG.up hH, trivial⟩ ?_
      refine WpPi.pn 4 rfl trivial ?_
      refine WpPi.consV (v := (iA r_6.at_)) rfl rfl rfl rfl (fun _ hi => Exact.load rfl rfl hi.1 rfl rfl) ?_
      obtain ⟨y_1, hy_1, h⟩ := Sh.bind_some h
      refine WpPi.consI (v := (.rop (cGChar y_1))) rfl rfl rfl rfl (fun _ => Exact.ixr cGChar hy_1 rfl rfl rfl rfl (by kernel_rfl) (by decide)) ?_
      refine WpPi.pn 1 rfl trivial ?_
      refine WpPi.consI (v := (iA y_1.at_)) rfl rfl rfl rfl (fun _ => Exact.load_rop rfl rfl rfl) ?_
      refine WpPi.pn 4 rfl trivial ?_
      refine WpPi.consV (v := (iA r_6.at_)) rfl rfl rfl rfl (fun _ hi => Exact.load rfl rfl hi.1 rfl rfl) ?_
      obtain ⟨c_3, h⟩ := Sh.chk_some h
      obtain ⟨c_4, h⟩ := Sh.chk_some h
      obtain ⟨y_2, hy_2, h⟩ := Sh.bind_some h
      refine WpPi.pn 3 rfl ⟨c_4, c_3⟩ ?_
      refine WpPi.consI (v := (.rop (cGChar y_2))) rfl rfl rfl rfl (fun _ => Exact.ixr cGChar hy_2 rfl rfl rfl rfl (by kernel_rfl) (by decide)) ?_
      refine WpPi.pn 1 rfl trivial ?_
      refine WpPi.consI (v := (iA y_2.at_)) rfl rfl rfl rfl (fun _ => Exact.load_rop rfl rfl rfl) ?_
      obtain ⟨c_5, h⟩ := Sh.chk_some h
      refine WpPi.pn 2 rfl c_5 ?_
      refine WpPi.consF rfl rfl rfl rfl (WpO.putT (cs' := (cGTok (GTok.mk r_7.1 ((r_6.s.drop (r_6.at_).toNat).take (((r_6.at_ + r_7.2)).toNat - (r_6.at_).toNat)) l_1.file_ y_1.at_ l_1.to l_1.blank))) (v := (iA y_1.at_)) rfl rfl hH (i := 0) rfl rfl rfl rfl rfl rfl rfl fun H' hH => ⟨⟨hH.cell (i := 2) rfl, hG.up hH, trivial⟩, ?_⟩)
      refine WpPi.pn 1 rfl trivial ?_
      refine WpPi.consF rfl rfl rfl rfl (WpO.putT (cs' := (cGTok (GTok.mk r_7.1 ((r_6.s.drop (r_6.at_).toNat).take (((r_6.at_ + r_7.2)).toNat - (r_6.at_).toNat)) l_1.file_ y_1.at_ (y_2.at_ + (1 : Int)) l_1.blank))) (v := (iA (y_2.at_ + (1 : Int)))) rfl rfl hH (i := 0) rfl rfl rfl rfl rfl rfl rfl fun H' hH => ⟨⟨hH.cell (i := 2) rfl, hG.up hH, trivial⟩, ?_⟩)
      refine WpPi.nil ?_
      refine WpC.seqR ?_
      refine WpOps.pn 3 rfl trivial ?_
      refine WpOps.consE (v := (iA r_6.at_)) rfl rfl (Exact.load rfl rfl (hH.cell (i := 2) rfl) rfl rfl) ?_
      obtain ⟨c_6, h⟩ := Sh.chk_some h
      refine WpOps.pn 4 rfl c_6 ?_
      refine WpOps.consG rfl rfl (WpO.putT (cs' := (cGPptok_reader (GPptok_reader.mk r_6.s (r_6.at_ + r_7.2)))) (v := (iA (r_6.at_ + r_7.2))) rfl rfl hH (i := 2) rfl rfl rfl rfl rfl rfl rfl fun H' hH => ?_)
      refine WpOps.nil ?_
      refine WpC.regionD ?_
      refine WpOps.pn 1 rfl trivial ?_
      refine WpOps.consE (v := (AV.agg (cGTok (GTok.mk r_7.1 ((r_6.s.drop (r_6.at_).toNat).take (((r_6.at_ + r_7.2)).toNat - (r_6.at_).toNat)) l_1.file_ y_1.at_ (y_2.at_ + (1 : Int)) l_1.blank)))) rfl rfl (Exact.load rfl rfl (hH.cell (i := 0) rfl) rfl rfl) ?_
      refine WpOps.consE (v := (AV.rows 6 (List.map cGTok ([(GTok.mk r_7.1 ((r_6.s.drop (r_6.at_).toNat).take (((r_6.at_ + r_7.2)).toNat - (r_6.at_).toNat)) l_1.file_ y_1.at_ (y_2.at_ + (1 : Int)) l_1.blank)] : List GTok)))) rfl rfl (Exact.litSlice rfl (by kernel_rfl)) ?_
      obtain ⟨c_7, h⟩ := Sh.chk_some h
      refine WpOps.consG rfl rfl (WpO.pushT cGTok out_1 ([(GTok.mk r_7.1 ((r_6.s.drop (r_6.at_).toNat).take (((r_6.at_ + r_7.2)).toNat - (r_6.at_).toNat)) l_1.file_ y_1.at_ (y_2.at_ + (1 : Int)) l_1.blank)] : List GTok) (i := 1) rfl ek35 hH rfl rfl rfl (.rows _) (fun y _ => one_cGTok y) (by simp) c_7 (by decide) fun p_2 H' hH => ?_)
      refine WpOps.pn 1 rfl trivial ?_
      refine WpOps.nil ?_
      obtain ⟨_, hle_1, hH⟩ := hH.lose_ (i := 0) rfl
      obtain rfl := Sh.some_inj h
      exact ⟨_, hle_1, ((out_1 ++ ([(GTok.mk r_7.1 ((r_6.s.drop (r_6.at_).toNat).take (((r_6.at_ + r_7.2)).toNat - (r_6.at_).toNat)) l_1.file_ y_1.at_ (y_2.at_ + (1 : Int)) l_1.blank)] : List GTok)), (GPptok_reader.mk r_6.s (r_6.at_ + r_7.2))), p_2, rfl, ⟨rfl, rfl, rfl, rfl, trivial⟩, hH⟩

theorem w_emendlaw13_lists {H0 : Heap} (hG : Glob H0) {vars_1 : Int} {texts_1 : List (List UInt8)} {r : List (List GTok) × Bool} (h : emendlaw13_lists vars_1 texts_1 = some r) : TCall Tryd.prog 9 [(iA vars_1), (AV.rows 1 (List.map cS texts_1))] H0 (fun v H' => v = (.tup [(AV.rows 1 (List.map (cL 6 cGTok) r.1)), (bA r.2)]) ∧ H' = H0) noE := by
  refine id (TCall.body Tryd.func9 rfl rfl ?_)
  have hH : Holds H0 [] H0 := rfl
  refine WpC.seqR ?_
  refine WpOps.pn 2 rfl trivial ?_
  refine WpOps.nil ?_
  refine WpC.seq ?_
  refine WpC.seqR ?_
  refine WpOps.pn 2 rfl trivial ?_
  obtain ⟨b_1, g_1, h⟩ := Sh.bind_some h
  refine WpOps.cutB 4 16 (bA b_1) rfl ?_ ?_
  ·
    refine WpOps.pn 1 rfl trivial ?_
    refine WpOps.split 13 rfl (fun hb => ?_) (fun hb => ?_)
    ·
      replace g_1 := Sh.ite_pos hb g_1
      refine WpOps.pn 3 rfl trivial ?_
      refine WpOps.nil ?_
      obtain rfl := Sh.some_inj g_1
      exact ⟨rfl, rfl⟩
    ·
      replace g_1 := Sh.ite_neg hb g_1
      refine WpOps.pn 3 rfl trivial ?_
      refine WpOps.nil ?_
      obtain rfl := Sh.some_inj g_1
      exact ⟨rfl, rfl⟩
  intro env
  refine WpOps.nil ?_
  refine WpC.condB rfl (fun hb => ?_) (fun hb => ?_)
  ·
    replace h := Sh.ite_pos hb h
    refine WpC.seqR ?_
    refine WpOps.pn 2 rfl trivial ?_
    refine WpOps.nil ?_
    refine WpC.sub (t := 4) (Sub.nil 1) ?_
    obtain rfl := Sh.some_inj h
    refine WpC.ret ?_
    exact VEnds.ret2 rfl rfl rfl ⟨rfl, hH⟩
  ·
    replace h := Sh.ite_neg hb h
    refine WpC.skipD ?_
    refine ⟨_, Heap.le_refl _, ?_⟩
    refine WpC.seqR ?_
    refine WpOps.pn 1 rfl trivial ?_
    have hH := hH.nil 35 1
    refine WpOps.nil ?_
    refine WpC.seq ?_
    refine WpC.seqR ?_
    refine WpOps.pn 1 rfl trivial ?_
    refine WpOps.nil ?_
    refine WpC.blockK (fun x : (List (List GTok)) × ((Option (Nat × Nat))) => [(6, (.own (List.map (cL 6 cGTok) x.1).length x.2))]) (fun x H' => emendlaw13_lists_j1 x.1 = some r ∧ Holds H0 [.own 35 1 x.2 (List.map (cL 6 cGTok) x.1)] H') ?_ ?_
    ·
      obtain ⟨o_1, ho_1, hk_1⟩ := Sh.bind_some h
      refine WpC.loopS (emendlaw13_lists_b2 vars_1 texts_1) (fun (s : Int × List (List GTok)) (a : (Option (Nat × Nat))) => [(0, (iA vars_1)), (1, (AV.rows 1 (List.map cS texts_1))), (6, (.own (List.map (cL 6 cGTok) s.2).length a)), (7, (iA s.1))]) (fun (s : Int × List (List GTok)) (a : (Option (Nat × Nat))) H' => Holds H0 [.own 35 1 a (List.map (cL 6 cGTok) s.2)] H') o_1 ((0 : Int), ([] : List (List GTok))) none ho_1 ⟨rfl, rfl, rfl, rfl, trivial⟩ hH ?_
      rintro ⟨i_1, out_1⟩ p_1 st_1 env H' h hd_1 hH
      refine WpC.seq ?_
      refine WpC.seqR ?_
      obtain ⟨c_1, h⟩ := Sh.chk_some h
      refine WpOps.pn 4 rfl c_1 ?_
      refine WpOps.nil ?_
      refine WpC.condB rfl (fun hb => ?_) (fun hb => ?_)
      ·
        replace h := Sh.ite_pos hb h
        refine WpC.skipD ?_
        refine ⟨_, Heap.le_refl _, ?_⟩
        refine WpC.seq ?_
        refine WpC.block ?_
        refine WpC.seqR ?_
        refine WpOps.pn 1 rfl trivial ?_
        refine WpOps.nil ?_
        refine WpC.seqK (fun x : (List UInt8) × (Unit) => [(0, (iA vars_1)), (1, (AV.rows 1 (List.map cS texts_1))), (6, (.own (List.map (cL 6 cGTok) out_1).length p_1)), (7, (iA i_1)), (8, (sA x.1))]) (fun x H' => (emendlaw13_lists_j3 i_1 out_1) x.1 = some st_1 ∧ Holds H0 [.own 35 1 p_1 (List.map (cL 6 cGTok) out_1)] H') ?_ ?_
        ·
          refine WpC.seqR ?_
          refine WpOps.pn 3 rfl trivial ?_
          refine WpOps.at 25 (len_map _ _) ?_
          refine WpOps.pn 1 rfl trivial ?_
          refine WpOps.nil ?_
          refine WpC.condB rfl (fun hb => ?_) (fun hb => ?_)
          ·
            replace h := Sh.ite_pos hb h
            refine WpC.regionD ?_
            obtain ⟨y_1, hy_1, h⟩ := Sh.bind_some h
            refine WpOps.pn 2 rfl trivial ?_
            refine WpOps.consE (v := (.rop (cS y_1))) rfl rfl (Exact.ixr cS hy_1 rfl rfl rfl rfl (by kernel_rfl) (by decide)) ?_
            refine WpOps.consE (v := (sA y_1)) rfl rfl (Exact.load_rop rfl rfl rfl) ?_
            refine WpOps.pn 1 rfl trivial ?_
            refine WpOps.nil ?_
            exact ⟨_, (Heap.le_refl _), (y_1, ()), ⟨rfl, rfl, rfl, rfl, rfl, trivial⟩, h, hH⟩
          ·
            replace h := Sh.ite_neg hb h
            refine WpC.skipD ?_
            exact ⟨_, (Heap.le_refl _), (([] : List UInt8), ()), ⟨rfl, rfl, rfl, rfl, rfl, trivial⟩, h, hH⟩
        ·
          rintro ⟨s_1, _⟩ env H' ⟨h, hH⟩
          try dsimp only at h
          refine WpC.seq ?_
          refine WpC.seqR ?_
          refine WpOps.pn 3 rfl trivial ?_
          refine WpOps.nil ?_
          refine WpC.condB rfl (fun hb => ?_) (fun hb => ?_)
          ·
            replace h := Sh.ite_pos hb h
            refine WpC.seqR ?_
            refine WpOps.pn 2 rfl trivial ?_
            refine WpOps.nil ?_
            refine WpC.sub (t := 4) (Sub.nil 1) ?_
            refine WpC.lose (i := 0) hH rfl (fun H' hH => ?_)
            obtain rfl := Sh.some_inj h
            have e := hd_1 _ rfl
            subst e
            have h := hk_1
            obtain rfl := Sh.some_inj h
            refine WpC.ret ?_
            exact VEnds.ret2 rfl rfl rfl ⟨rfl, hH⟩
          ·
            replace h := Sh.ite_neg hb h
            refine WpC.skipD ?_
            refine ⟨_, Heap.le_refl _, ?_⟩
            refine WpC.seqR ?_
            refine WpOps.consG rfl rfl (WpO.litT (size := 6) cGTok ([] : List GTok) rfl rfl (by kernel_rfl) rfl hH fun g_2 H' hH => ?_)
            obtain ⟨r_1, hr_1, h⟩ := Sh.bind_some h
            refine WpOps.pn 1 rfl trivial ?_
            refine WpOps.consE (v := (AV.rows 6 (List.map cGTok r_1))) rfl rfl (Exact.call rfl rfl rfl (w_pptok_Tokens (hG.up hH) hr_1)) ?_
            obtain ⟨c_2, h⟩ := Sh.chk_some h
            refine WpOps.consG rfl rfl (WpO.pushS cGTok ([] : List GTok) r_1 (i := 0) rfl ek35 hH rfl rfl rfl (.rows _) (fun y _ => one_cGTok y) c_2 (by decide) fun g_3 cp_1 H' hH => ?_)
            refine WpOps.pn 1 rfl trivial ?_
            refine WpOps.nil ?_
            refine WpC.seq ?_
            refine WpC.seqR ?_
            refine WpOps.pn 1 rfl trivial ?_
            refine WpOps.nil ?_
            refine WpC.blockK (fun x : (List GTok) × ((Option (Nat × Nat))) => [(0, (iA vars_1)), (1, (AV.rows 1 (List.map cS texts_1))), (6, (.own (List.map (cL 6 cGTok) out_1).length p_1)), (7, (iA i_1)), (9, (.own (List.map cGTok x.1).length x.2))]) (fun x H' => (emendlaw13_lists_j4 i_1 out_1) x.1 = some st_1 ∧ Holds H0 [.own 40 6 x.2 (List.map cGTok x.1), .own 35 1 p_1 (List.map (cL 6 cGTok) out_1)] H') ?_ ?_
            ·
              obtain ⟨o_2, ho_2, hk_2⟩ := Sh.bind_some h
              refine WpC.loopS emendlaw13_lists_b5 (fun (s : Int × List GTok) (a : (Option (Nat × Nat))) => [(0, (iA vars_1)), (1, (AV.rows 1 (List.map cS texts_1))), (6, (.own (List.map (cL 6 cGTok) out_1).length p_1)), (7, (iA i_1)), (9, (.own (List.map cGTok s.2).length a)), (10, (iA s.1))]) (fun (s : Int × List GTok) (a : (Option (Nat × Nat))) H' => Holds H0 [.own 40 6 a (List.map cGTok s.2), .own 35 1 p_1 (List.map (cL 6 cGTok) out_1)] H') o_2 ((0 : Int), (([] : List GTok) ++ r_1)) (some (g_3, cp_1)) ho_2 ⟨rfl, rfl, rfl, rfl, rfl, rfl, trivial⟩ hH ?_
              rintro ⟨k_1, l_1⟩ p_2 st_2 env H' h hd_2 hH
              refine WpC.seq ?_
              refine WpC.seqR ?_
              refine WpOps.pn 3 rfl trivial ?_
              refine WpOps.at 40 (len_map _ _) ?_
              refine WpOps.pn 1 rfl trivial ?_
              refine WpOps.nil ?_
              refine WpC.condB rfl (fun hb => ?_) (fun hb => ?_)
              ·
                replace h := Sh.ite_pos hb h
                refine WpC.skipD ?_
                refine ⟨_, Heap.le_refl _, ?_⟩
                refine WpC.seq ?_
                refine WpC.block ?_
                refine WpC.seqR ?_
                obtain ⟨y_2, hy_2, h⟩ := Sh.bind_some h
                refine WpOps.pn 2 rfl trivial ?_
                have hq_1 := h; have hq_2 := hH
                obtain ⟨g_4, cp_2, rfl⟩ := hq_2.grown (i := 0) rfl (ne_of_ix hy_2)
                have h := hq_1; have hH := hq_2
                refine WpOps.consE rfl rfl (Exact.ixo (size := 6) cGTok hy_2 rfl rfl rfl rfl (by kernel_rfl) (by decide)) ?_
                refine WpOps.pn 1 rfl trivial ?_
                refine WpOps.consG rfl rfl (WpO.setT (off := 3) (i := 0) cGTok (y' := (GTok.mk y_2.kind y_2.text y_2.file_ (0 : Int) y_2.to y_2.blank)) (v := (iA (0 : Int))) hy_2 hH rfl rfl rfl rfl rfl rfl rfl rfl rfl fun H' hH => ?_)
                refine WpOps.at 9 (own_set cGTok l_1 (k_1).toNat (GTok.mk y_2.kind y_2.text y_2.file_ (0 : Int) y_2.to y_2.blank) _) ?_
                refine WpOps.at 39 (own_set cGTok l_1 (k_1).toNat (GTok.mk y_2.kind y_2.text y_2.file_ (0 : Int) y_2.to y_2.blank) _) ?_
                refine WpOps.at 44 (own_set cGTok l_1 (k_1).toNat (GTok.mk y_2.kind y_2.text y_2.file_ (0 : Int) y_2.to y_2.blank) _) ?_
                refine WpOps.nil ?_
                refine WpC.regionD ?_
                obtain ⟨y_3, hy_3, h⟩ := Sh.bind_some h
                refine WpOps.pn 2 rfl trivial ?_
                refine WpOps.consE rfl rfl (Exact.ixo (size := 6) cGTok hy_3 rfl rfl rfl rfl (by kernel_rfl) (by decide)) ?_
                refine WpOps.pn 1 rfl trivial ?_
                refine WpOps.consG rfl rfl (WpO.setT (off := 4) (i := 0) cGTok (y' := (GTok.mk y_3.kind y_3.text y_3.file_ y_3.from_ (0 : Int) y_3.blank)) (v := (iA (0 : Int))) hy_3 hH rfl rfl rfl rfl rfl rfl rfl rfl rfl fun H' hH => ?_)
                refine WpOps.at 9 (own_set cGTok (l_1.set (k_1).toNat (GTok.mk y_2.kind y_2.text y_2.file_ (0 : Int) y_2.to y_2.blank)) (k_1).toNat (GTok.mk y_3.kind y_3.text y_3.file_ y_3.from_ (0 : Int) y_3.blank) _) ?_
                refine WpOps.at 39 (own_set cGTok (l_1.set (k_1).toNat (GTok.mk y_2.kind y_2.text y_2.file_ (0 : Int) y_2.to y_2.blank)) (k_1).toNat (GTok.mk y_3.kind y_3.text y_3.file_ y_3.from_ (0 : Int) y_3.blank) _) ?_
                refine WpOps.at 44 (own_set cGTok (l_1.set (k_1).toNat (GTok.mk y_2.kind y_2.text y_2.file_ (0 : Int) y_2.to y_2.blank)) (k_1).toNat (GTok.mk y_3.kind y_3.text y_3.file_ y_3.from_ (0 : Int) y_3.blank) _) ?_
                refine WpOps.at 48 (own_set cGTok (l_1.set (k_1).toNat (GTok.mk y_2.kind y_2.text y_2.file_ (0 : Int) y_2.to y_2.blank)) (k_1).toNat (GTok.mk y_3.kind y_3.text y_3.file_ y_3.from_ (0 : Int) y_3.blank) _) ?_
                refine WpOps.nil ?_
                refine ⟨_, Heap.le_refl _, ?_⟩
                refine WpC.regionD ?_
                obtain ⟨c_3, h⟩ := Sh.chk_some h
                refine WpOps.pn 3 rfl c_3 ?_
                refine WpOps.nil ?_
                obtain rfl := Sh.some_inj h
                exact ⟨_, (Heap.le_refl _), ((k_1 + (1 : Int)), ((l_1.set (k_1).toNat (GTok.mk y_2.kind y_2.text y_2.file_ (0 : Int) y_2.to y_2.blank)).set (k_1).toNat (GTok.mk y_3.kind y_3.text y_3.file_ y_3.from_ (0 : Int) y_3.blank))), (some (g_4, cp_2)), rfl, ⟨rfl, rfl, rfl, rfl, rfl, rfl, trivial⟩, hH⟩
              ·
                replace h := Sh.ite_neg hb h
                obtain rfl := Sh.some_inj h
                have e := hd_2 _ rfl
                subst e
                refine WpC.exit ?_
                exact ⟨(l_1, p_2), ⟨rfl, rfl, rfl, rfl, rfl, trivial⟩, hk_2, hH⟩
            ·
              rintro ⟨l_2, p_3⟩ env H' ⟨h, hH⟩
              try dsimp only at h
              refine ⟨_, Heap.le_refl _, ?_⟩
              refine WpC.freeze (t := 9) (i := 0) hH rfl rfl (fun H' hH => ?_)
              refine WpC.regionD ?_
              refine WpOps.pn 2 rfl trivial ?_
              refine WpOps.consE (v := (AV.rows 1 (List.map (cL 6 cGTok) ([l_2] : List (List GTok))))) rfl rfl (Exact.litSlice rfl (by kernel_rfl)) ?_
              obtain ⟨c_4, h⟩ := Sh.chk_some h
              refine WpOps.consG rfl rfl (WpO.pushT (cL 6 cGTok) out_1 ([l_2] : List (List GTok)) (i := 0) rfl ek24 hH rfl rfl rfl (.rows _) (fun y _ => (one_cL _ _) y) (by simp) c_4 (by decide) fun p_4 H' hH => ?_)
              refine WpOps.pn 1 rfl trivial ?_
              refine WpOps.nil ?_
              refine ⟨_, Heap.le_refl _, ?_⟩
              refine WpC.regionD ?_
              obtain ⟨c_5, h⟩ := Sh.chk_some h
              refine WpOps.pn 3 rfl c_5 ?_
              refine WpOps.nil ?_
              obtain rfl := Sh.some_inj h
              exact ⟨_, (Heap.le_refl _), ((i_1 + (1 : Int)), (out_1 ++ ([l_2] : List (List GTok)))), p_4, rfl, ⟨rfl, rfl, rfl, rfl, trivial⟩, hH⟩
      ·
        replace h := Sh.ite_neg hb h
        obtain rfl := Sh.some_inj h
        have e := hd_1 _ rfl
        subst e
        refine WpC.exit ?_
        exact ⟨(out_1, p_1), ⟨rfl, trivial⟩, hk_1, hH⟩
    ·
      rintro ⟨out_2, p_5⟩ env H' ⟨h, hH⟩
      try dsimp only at h
      refine ⟨_, Heap.le_refl _, ?_⟩
      refine WpC.seqR ?_
      refine WpOps.pn 3 rfl trivial ?_
      refine WpOps.nil ?_
      refine WpC.freeze (t := 4) (i := 0) hH rfl rfl (fun H' hH => ?_)
      obtain rfl := Sh.some_inj h
      refine WpC.ret ?_
      exact VEnds.ret2 rfl rfl rfl ⟨rfl, hH⟩

theorem w_choice_begin {H0 : Heap} {first_1 : List GTok} {others_1 : List (List GTok)} {r : Int} (h : choice_begin first_1 others_1 = some r) : TCall Tryd.prog 25 [(AV.rows 6 (List.map cGTok first_1)), (AV.rows 1 (List.map (cL 6 cGTok) others_1))] H0 (fun v H' => v = (iA r) ∧ H' = H0) noE := by
  refine id (TCall.body Tryd.func25 rfl rfl ?_)
  have hH : Holds H0 [] H0 := rfl
  refine WpC.seqR ?_
  refine WpOps.pn 1 rfl trivial ?_
  refine WpOps.nil ?_
  refine WpC.seqR ?_
  refine WpOps.pn 2 rfl trivial ?_
  refine WpOps.at 10 (len_map _ _) ?_
  refine WpOps.pn 1 rfl trivial ?_
  refine WpOps.nil ?_
  refine WpC.seq ?_
  refine WpC.seqR ?_
  refine WpOps.pn 2 rfl trivial ?_
  refine WpOps.at 12 (len_map _ _) ?_
  refine WpOps.pn 1 rfl trivial ?_
  refine WpOps.nil ?_
  refine WpC.blockK (fun x : (Int) × (Unit) => [(5, (iA x.1))]) (fun x H' => choice_begin_j1 x.1 = some r ∧ Holds H0 [] H') ?_ ?_
  ·
    obtain ⟨o_1, ho_1, hk_1⟩ := Sh.bind_some h
    refine WpC.loopS (choice_begin_b2 first_1 others_1) (fun (s : Int × Int) (a : Unit) => [(0, (AV.rows 6 (List.map cGTok first_1))), (5, (iA s.1)), (11, (AV.rows 1 (List.map (cL 6 cGTok) others_1))), (12, (iA (others_1.length : Int))), (13, (iA s.2))]) (fun (s : Int × Int) (a : Unit) H' => Holds H0 [] H') o_1 ((first_1.length : Int), (0 : Int)) () ho_1 ⟨rfl, rfl, rfl, rfl, rfl, trivial⟩ hH ?_
    rintro ⟨n_1, t13_1⟩ _ st_1 env H' h hd_1 hH
    refine WpC.seqR ?_
    refine WpOps.pn 1 rfl trivial ?_
    refine WpOps.nil ?_
    refine WpC.seq ?_
    refine WpC.condB rfl (fun hb => ?_) (fun hb => ?_)
    ·
      replace h := Sh.ite_pos hb h
      refine WpC.skipD ?_
      refine ⟨_, Heap.le_refl _, ?_⟩
      refine WpC.seq ?_
      refine WpC.block ?_
      refine WpC.seqR ?_
      obtain ⟨y_1, hy_1, h⟩ := Sh.bind_some h
      refine WpOps.consE (v := (.rop ((cL 6 cGTok) y_1))) rfl rfl (Exact.ixr (cL 6 cGTok) hy_1 rfl rfl rfl rfl (by kernel_rfl) (by decide)) ?_
      refine WpOps.consE (v := (AV.rows 6 (List.map cGTok y_1))) rfl rfl (Exact.load_rop rfl rfl rfl) ?_
      refine WpOps.pn 1 rfl trivial ?_
      refine WpOps.nil ?_
      refine WpC.seqR ?_
      refine WpOps.pn 3 rfl trivial ?_
      refine WpOps.at 19 (len_map _ _) ?_
      refine WpOps.pn 2 rfl trivial ?_
      refine WpOps.nil ?_
      refine WpC.seqR ?_
      refine WpOps.pn 2 rfl trivial ?_
      refine WpOps.nil ?_
      refine WpC.blockK (fun x : (Int) × (Unit) => [(0, (AV.rows 6 (List.map cGTok first_1))), (5, (iA x.1)), (11, (AV.rows 1 (List.map (cL 6 cGTok) others_1))), (12, (iA (others_1.length : Int))), (13, (iA t13_1))]) (fun x H' => (choice_begin_j3 t13_1) x.1 = some st_1 ∧ Holds H0 [] H') ?_ ?_
      ·
        obtain ⟨o_2, ho_2, hk_2⟩ := Sh.bind_some h
        refine WpC.loopS (choice_begin_b4 first_1 n_1 y_1) (fun (s : Int × Int) (a : Unit) => [(0, (AV.rows 6 (List.map cGTok first_1))), (5, (iA s.1)), (7, (AV.rows 6 (List.map cGTok y_1))), (11, (AV.rows 1 (List.map (cL 6 cGTok) others_1))), (12, (iA (others_1.length : Int))), (13, (iA t13_1)), (21, (iA (if (y_1.length : Int) < n_1 then (y_1.length : Int) else n_1))), (22, (iA s.2))]) (fun (s : Int × Int) (a : Unit) H' => Holds H0 [] H') o_2 ((if (y_1.length : Int) < n_1 then (y_1.length : Int) else n_1), (0 : Int)) () ho_2 ⟨rfl, rfl, rfl, rfl, rfl, rfl, rfl, rfl, trivial⟩ hH ?_
        rintro ⟨n_2, t22_1⟩ _ st_2 env H' h hd_2 hH
        refine WpC.seqR ?_
        refine WpOps.pn 1 rfl trivial ?_
        refine WpOps.nil ?_
        refine WpC.seq ?_
        refine WpC.condB rfl (fun hb => ?_) (fun hb => ?_)
        ·
          replace h := Sh.ite_pos hb h
          refine WpC.skipD ?_
          refine ⟨_, Heap.le_refl _, ?_⟩
          refine WpC.seq ?_
          refine WpC.block ?_
          refine WpC.seqR ?_
          refine WpOps.pn 2 rfl trivial ?_
          refine WpOps.nil ?_
          refine WpC.seqD [] [0, 1, 2, 3, 4, 5, 6, 7, 8] (by kernel_rfl) (by kernel_rfl) ?_
          obtain ⟨y_2, hy_2, h⟩ := Sh.bind_some h
          refine WpPi.pn 2 rfl trivial ?_
          refine WpPi.consI (v := (.rop (cGTok y_2))) rfl rfl rfl rfl (fun _ => Exact.ixr cGTok hy_2 rfl rfl rfl rfl (by kernel_rfl) (by decide)) ?_
          refine WpPi.consI (v := (AV.agg (cGTok y_2))) rfl rfl rfl rfl (fun _ => Exact.load_rop rfl rfl rfl) ?_
          obtain ⟨y_3, hy_3, h⟩ := Sh.bind_some h
          refine WpPi.pn 2 rfl trivial ?_
          refine WpPi.consI (v := (.rop (cGTok y_3))) rfl rfl rfl rfl (fun _ => Exact.ixr cGTok hy_3 rfl rfl rfl rfl (by kernel_rfl) (by decide)) ?_
          refine WpPi.consI (v := (AV.agg (cGTok y_3))) rfl rfl rfl rfl (fun _ => Exact.load_rop rfl rfl rfl) ?_
          refine WpPi.consI (v := (bA (!decide (y_2 = y_3)))) rfl rfl rfl rfl (fun _ => Exact.neqStruct rfl rfl rfl (eqL_GTok y_2 y_3) (by kernel_rfl) rfl (by kernel_rfl)) ?_
          refine WpPi.nil ?_
          refine WpC.condB rfl (fun hb => ?_) (fun hb => ?_)
          ·
            replace h := Sh.ite_pos hb h
            refine WpC.seqR ?_
            refine WpOps.pn 2 rfl trivial ?_
            refine WpOps.nil ?_
            obtain rfl := Sh.some_inj h
            have e := hd_2 _ rfl
            subst e
            refine WpC.exit ?_
            exact ⟨(t22_1, ()), ⟨rfl, rfl, rfl, rfl, rfl, trivial⟩, hk_2, hH⟩
          ·
            replace h := Sh.ite_neg hb h
            refine WpC.skipD ?_
            refine ⟨_, Heap.le_refl _, ?_⟩
            refine WpC.regionD ?_
            obtain ⟨c_1, h⟩ := Sh.chk_some h
            refine WpOps.pn 2 rfl c_1 ?_
            refine WpOps.nil ?_
            obtain rfl := Sh.some_inj h
            exact ⟨_, (Heap.le_refl _), (n_2, (t22_1 + (1 : Int))), (), rfl, ⟨rfl, rfl, rfl, rfl, rfl, rfl, rfl, rfl, trivial⟩, hH⟩
        ·
          replace h := Sh.ite_neg hb h
          obtain rfl := Sh.some_inj h
          have e := hd_2 _ rfl
          subst e
          refine WpC.exit ?_
          exact ⟨(n_2, ()), ⟨rfl, rfl, rfl, rfl, rfl, trivial⟩, hk_2, hH⟩
      ·
        rintro ⟨n_3, _⟩ env H' ⟨h, hH⟩
        try dsimp only at h
        refine ⟨_, Heap.le_refl _, ?_⟩
        refine WpC.regionD ?_
        obtain ⟨c_2, h⟩ := Sh.chk_some h
        refine WpOps.pn 2 rfl c_2 ?_
        refine WpOps.nil ?_
        obtain rfl := Sh.some_inj h
        exact ⟨_, (Heap.le_refl _), (n_3, (t13_1 + (1 : Int))), (), rfl, ⟨rfl, rfl, rfl, rfl, rfl, trivial⟩, hH⟩
    ·
      replace h := Sh.ite_neg hb h
      obtain rfl := Sh.some_inj h
      have e := hd_1 _ rfl
      subst e
      refine WpC.exit ?_
      exact ⟨(n_1, ()), ⟨rfl, trivial⟩, hk_1, hH⟩
  ·
    rintro ⟨n_4, _⟩ env H' ⟨h, hH⟩
    try dsimp only at h
    refine ⟨_, Heap.le_refl _, ?_⟩
    refine WpC.seqR ?_
    refine WpOps.pn 2 rfl trivial ?_
    refine WpOps.nil ?_
    obtain rfl := Sh.some_inj h
    refine WpC.ret ?_
    exact VEnds.ret1 rfl rfl ⟨rfl, hH⟩

theorem w_slices_Clone_Lapi_Tok_api_Tok {H0 : Heap} {l : List GTok} (hc : l.length * 56 ≤ 140737488355328) : TCall Tryd.prog 38 [.rows 6 (List.map cGTok l)] H0 (fun v H' => ∃ p, v = .own (List.map cGTok l).length p ∧ Vc.Own H0 40 6 (List.map cGTok l) (List.map cGTok l).length p H') noE := by
  refine TCall.body Tryd.func38 rfl rfl ?_
  refine WpC.seqR ?_
  refine WpOps.pn 1 rfl trivial ?_
  refine WpOps.nil ?_
  refine WpC.seq ?_
  refine WpC.seqR ?_
  refine WpOps.pn 1 rfl trivial ?_
  refine WpOps.consG rfl rfl (WpO.isNil (size := 6) (es := List.map cGTok l) rfl rfl rfl rfl fun b hb => ?_)
  refine WpOps.nil ?_
  refine WpC.condB rfl (fun hb2 => ?_) (fun hb2 => ?_)
  · subst hb2
    have e0 : List.map cGTok l = [] := hb rfl
    refine WpC.seqR ?_
    refine WpOps.pn 1 rfl trivial ?_
    refine WpOps.nil ?_
    refine WpC.ret ?_
    exact VEnds.ret1 rfl rfl ⟨none, by rw [e0]; rfl, by rw [e0]; exact Vc.Own.nil rfl⟩
  · refine WpC.skip ?_
    have hH : Holds H0 [] H0 := rfl
    refine WpC.seqR ?_
    refine WpOps.consG rfl rfl (WpO.litT (size := 6) cGTok ([] : List GTok) rfl rfl (by kernel_rfl) rfl hH fun g H' hH => ?_)
    refine WpOps.pn 1 rfl trivial ?_
    refine WpOps.consG rfl rfl (WpO.pushS cGTok ([] : List GTok) l (i := 0) rfl ek35 hH rfl rfl rfl (.rows _) (fun y _ => one_cGTok y) (by simpa using hc) (by decide) fun g2 c2 H' hH => ?_)
    refine WpOps.pn 1 rfl trivial ?_
    refine WpOps.nil ?_
    refine WpC.ret ?_
    obtain ⟨_, rfl, hO⟩ := hH
    exact VEnds.ret1 rfl rfl ⟨_, rfl, hO⟩

theorem w_choice_turned {H0 : Heap} {lists_1 : List (List GTok)} {r : List (List GTok)} (h : choice_turned lists_1 = some r) : TCall Tryd.prog 26 [(AV.rows 1 (List.map (cL 6 cGTok) lists_1))] H0 (fun v H' => v = (AV.rows 1 (List.map (cL 6 cGTok) r)) ∧ H' = H0) noE := by
  refine id (TCall.body Tryd.func26 rfl rfl ?_)
  have hH : Holds H0 [] H0 := rfl
  refine WpC.seqR ?_
  refine WpOps.pn 1 rfl trivial ?_
  refine WpOps.nil ?_
  refine WpC.seqR ?_
  refine WpOps.pn 1 rfl trivial ?_
  have hH := hH.nil 35 1
  refine WpOps.nil ?_
  refine WpC.seq ?_
  refine WpC.seqR ?_
  refine WpOps.pn 2 rfl trivial ?_
  refine WpOps.at 7 (len_map _ _) ?_
  refine WpOps.pn 1 rfl trivial ?_
  refine WpOps.nil ?_
  refine WpC.blockK (fun x : (List (List GTok)) × ((Option (Nat × Nat))) => [(3, (.own (List.map (cL 6 cGTok) x.1).length x.2))]) (fun x H' => choice_turned_j1 x.1 = some r ∧ Holds H0 [.own 35 1 x.2 (List.map (cL 6 cGTok) x.1)] H') ?_ ?_
  ·
    obtain ⟨o_1, ho_1, hk_1⟩ := Sh.bind_some h
    refine WpC.loopS (choice_turned_b2 lists_1) (fun (s : Int × List (List GTok)) (a : (Option (Nat × Nat))) => [(3, (.own (List.map (cL 6 cGTok) s.2).length a)), (6, (AV.rows 1 (List.map (cL 6 cGTok) lists_1))), (7, (iA (lists_1.length : Int))), (8, (iA s.1))]) (fun (s : Int × List (List GTok)) (a : (Option (Nat × Nat))) H' => Holds H0 [.own 35 1 a (List.map (cL 6 cGTok) s.2)] H') o_1 ((0 : Int), ([] : List (List GTok))) none ho_1 ⟨rfl, rfl, rfl, rfl, trivial⟩ hH ?_
    rintro ⟨t8_1, out_1⟩ p_1 st_1 env H' h hd_1 hH
    refine WpC.seqR ?_
    refine WpOps.pn 1 rfl trivial ?_
    refine WpOps.nil ?_
    refine WpC.seq ?_
    refine WpC.condB rfl (fun hb => ?_) (fun hb => ?_)
    ·
      replace h := Sh.ite_pos hb h
      refine WpC.skipD ?_
      refine ⟨_, Heap.le_refl _, ?_⟩
      refine WpC.seq ?_
      refine WpC.block ?_
      refine WpC.seqR ?_
      obtain ⟨y_1, hy_1, h⟩ := Sh.bind_some h
      refine WpOps.consE (v := (.rop ((cL 6 cGTok) y_1))) rfl rfl (Exact.ixr (cL 6 cGTok) hy_1 rfl rfl rfl rfl (by kernel_rfl) (by decide)) ?_
      refine WpOps.consE (v := (AV.rows 6 (List.map cGTok y_1))) rfl rfl (Exact.load_rop rfl rfl rfl) ?_
      refine WpOps.pn 1 rfl trivial ?_
      refine WpOps.nil ?_
      refine WpC.seqR ?_
      obtain ⟨c_1, h⟩ := Sh.chk_some h
      refine WpOps.pn 1 rfl trivial ?_
      refine WpOps.consG rfl rfl (WpO.callO (t := 40) (size := 6) (es := List.map cGTok y_1) rfl rfl rfl hH (w_slices_Clone_Lapi_Tok_api_Tok c_1) fun p_2 H' hH => ?_)
      refine WpOps.pn 1 rfl trivial ?_
      refine WpOps.nil ?_
      refine WpC.seqR ?_
      obtain ⟨c_2, h⟩ := Sh.chk_some h
      refine WpOps.pn 1 rfl trivial ?_
      refine WpOps.consG rfl rfl (WpO.callT (v := (.tup [])) rfl rfl rfl hH (i := 0) rfl (fun H1 hl hh => w_revT c_2 hh) fun H' hH => ?_)
      refine WpOps.at 5 (own_rev _ _) ?_
      refine WpOps.at 13 (own_rev _ _) ?_
      refine WpOps.at 14 (own_rev _ _) ?_
      refine WpOps.nil ?_
      refine WpC.freeze (t := 5) (i := 0) hH rfl rfl (fun H' hH => ?_)
      refine WpC.regionD ?_
      refine WpOps.pn 2 rfl trivial ?_
      refine WpOps.consE (v := (AV.rows 1 (List.map (cL 6 cGTok) ([(List.reverse y_1)] : List (List GTok))))) rfl rfl (Exact.litSlice rfl (by kernel_rfl)) ?_
      obtain ⟨c_3, h⟩ := Sh.chk_some h
      refine WpOps.consG rfl rfl (WpO.pushT (cL 6 cGTok) out_1 ([(List.reverse y_1)] : List (List GTok)) (i := 0) rfl ek24 hH rfl rfl rfl (.rows _) (fun y _ => (one_cL _ _) y) (by simp) c_3 (by decide) fun p_3 H' hH => ?_)
      refine WpOps.pn 1 rfl trivial ?_
      refine WpOps.nil ?_
      refine ⟨_, Heap.le_refl _, ?_⟩
      refine WpC.regionD ?_
      obtain ⟨c_4, h⟩ := Sh.chk_some h
      refine WpOps.pn 2 rfl c_4 ?_
      refine WpOps.nil ?_
      obtain rfl := Sh.some_inj h
      exact ⟨_, (Heap.le_refl _), ((t8_1 + (1 : Int)), (out_1 ++ ([(List.reverse y_1)] : List (List GTok)))), p_3, rfl, ⟨rfl, rfl, rfl, rfl, trivial⟩, hH⟩
    ·
      replace h := Sh.ite_neg hb h
      obtain rfl := Sh.some_inj h
      have e := hd_1 _ rfl
      subst e
      refine WpC.exit ?_
      exact ⟨(out_1, p_1), ⟨rfl, trivial⟩, hk_1, hH⟩
  ·
    rintro ⟨out_2, p_4⟩ env H' ⟨h, hH⟩
    try dsimp only at h
    refine ⟨_, Heap.le_refl _, ?_⟩
    refine WpC.seqR ?_
    refine WpOps.pn 2 rfl trivial ?_
    refine WpOps.nil ?_
    refine WpC.freeze (t := 2) (i := 0) hH rfl rfl (fun H' hH => ?_)
    obtain rfl := Sh.some_inj h
    refine WpC.ret ?_
    exact VEnds.ret1 rfl rfl ⟨rfl, hH⟩

theorem w_choice_into {H0 H : Heap} {g_1 : Nat} {a_1 : GArena} {l_1 : List GChoice_CTok} {m_1 : List GTok} {here_1 : Int} (hH : Holds H0 [.many (arP g_1 a_1)] H) {r : (List GChoice_CTok) × GArena} (h : choice_into a_1 l_1 m_1 here_1 = some r) : TCall Tryd.prog 27 [(.lit (.pointer (some ⟨g_1, 0, none⟩))), (AV.rows 7 (List.map cGChoice_CTok l_1)), (AV.rows 6 (List.map cGTok m_1)), (iA here_1)] H (fun v H' => v = (AV.rows 7 (List.map cGChoice_CTok r.1)) ∧ Holds H0 [.many (arP g_1 r.2)] H') noE := by
  refine TCall.body Tryd.func27 rfl rfl ?_
  refine WpC.seqR ?_
  refine WpOps.pn 1 rfl trivial ?_
  refine WpOps.nil ?_
  refine WpC.seqR ?_
  obtain ⟨r_1, hr_1, h⟩ := Sh.bind_some h
  refine WpOps.pn 2 rfl trivial ?_
  refine WpOps.consE (v := (AV.rows 1 (List.map (cL 1 cI) r_1))) rfl rfl (Exact.call rfl rfl rfl (w_choice_table hr_1)) ?_
  refine WpOps.pn 1 rfl trivial ?_
  refine WpOps.nil ?_
  refine WpC.seqR ?_
  refine WpOps.pn 1 rfl trivial ?_
  have hH := hH.nil 43 7
  refine WpOps.nil ?_
  refine WpC.seqR ?_
  refine WpOps.pn 2 rfl trivial ?_
  refine WpOps.nil ?_
  refine WpC.seqB (fun x : (List GChoice_CTok × GArena) × ((Option (Nat × Nat))) => [(10, (.own (List.map cGChoice_CTok x.1.1).length x.2))]) (fun x H' => choice_into_j1 x.1 = some r ∧ Holds H0 [.own 43 7 x.2 (List.map cGChoice_CTok x.1.1), .many (arP g_1 x.1.2)] H') ?_ ?_
  ·
    obtain ⟨o_1, ho_1, hk_1⟩ := Sh.bind_some h
    refine WpC.loopS (choice_into_b2 l_1 m_1 here_1 r_1) (fun (s : Int × Int × List GChoice_CTok × GArena) (a : (Option (Nat × Nat))) => [(0, (.lit (.pointer (some ⟨g_1, 0, none⟩)))), (1, (AV.rows 7 (List.map cGChoice_CTok l_1))), (2, (AV.rows 6 (List.map cGTok m_1))), (3, (iA here_1)), (9, (AV.rows 1 (List.map (cL 1 cI) r_1))), (10, (.own (List.map cGChoice_CTok s.2.2.1).length a)), (11, (iA s.1)), (12, (iA s.2.1))]) (fun (s : Int × Int × List GChoice_CTok × GArena) (a : (Option (Nat × Nat))) H' => Holds H0 [.own 43 7 a (List.map cGChoice_CTok s.2.2.1), .many (arP g_1 s.2.2.2)] H') o_1 ((0 : Int), (0 : Int), ([] : List GChoice_CTok), a_1) none ho_1 ⟨rfl, rfl, rfl, rfl, rfl, rfl, rfl, rfl, trivial⟩ hH ?_
    rintro ⟨i_1, k_1, out_1, a_2⟩ p_1 st_1 env H' h hd_1 hH
    refine WpC.seq ?_
    refine WpC.seqR ?_
    refine WpOps.pn 3 rfl trivial ?_
    refine WpOps.at 20 (len_map _ _) ?_
    refine WpOps.pn 1 rfl trivial ?_
    obtain ⟨b_1, g_2, h⟩ := Sh.bind_some h
    refine WpOps.cutB 6 27 (bA b_1) rfl ?_ ?_
    ·
      refine WpOps.pn 1 rfl trivial ?_
      refine WpOps.split 22 rfl (fun hb => ?_) (fun hb => ?_)
      ·
        replace g_2 := Sh.ite_pos hb g_2
        refine WpOps.pn 5 rfl trivial ?_
        refine WpOps.nil ?_
        obtain rfl := Sh.some_inj g_2
        exact ⟨rfl, rfl⟩
      ·
        replace g_2 := Sh.ite_neg hb g_2
        refine WpOps.pn 3 rfl trivial ?_
        refine WpOps.at 25 (len_map _ _) ?_
        refine WpOps.pn 2 rfl trivial ?_
        refine WpOps.nil ?_
        obtain rfl := Sh.some_inj g_2
        exact ⟨rfl, rfl⟩
    intro env
    refine WpOps.nil ?_
    refine WpC.condB rfl (fun hb => ?_) (fun hb => ?_)
    ·
      replace h := Sh.ite_pos hb h
      refine WpC.skipD ?_
      refine ⟨_, Heap.le_refl _, ?_⟩
      refine WpC.block ?_
      refine WpC.block ?_
      refine WpC.seqD [] [0, 1, 2, 3, 4, 5, 6, 7, 8, 9, 10, 11, 12, 13, 14, 15, 16, 17, 18, 19, 20, 21, 22] (by kernel_rfl) (by kernel_rfl) ?_
      refine WpPi.pn 3 rfl trivial ?_
      refine WpPi.at 42 (len_map _ _) ?_
      refine WpPi.pn 1 rfl trivial ?_
      obtain ⟨b_2, g_3, h⟩ := Sh.bind_some h
      refine WpPi.cutB 6 49 (bA b_2) rfl ?_ ?_
      ·
        refine WpPi.pn 1 rfl trivial ?_
        refine WpPi.split 44 rfl (fun hb => ?_) (fun hb => ?_)
        ·
          replace g_3 := Sh.ite_pos hb g_3
          refine WpPi.pn 3 rfl trivial ?_
          refine WpPi.at 47 (len_map _ _) ?_
          refine WpPi.pn 2 rfl trivial ?_
          refine WpPi.nil ?_
          obtain rfl := Sh.some_inj g_3
          exact ⟨rfl, rfl⟩
        ·
          replace g_3 := Sh.ite_neg hb g_3
          refine WpPi.pn 5 rfl trivial ?_
          refine WpPi.nil ?_
          obtain rfl := Sh.some_inj g_3
          exact ⟨rfl, rfl⟩
      intro env
      obtain ⟨b_3, g_4, h⟩ := Sh.bind_some h
      refine WpPi.cutB 12 61 (bA b_3) rfl ?_ ?_
      ·
        refine WpPi.pn 1 rfl trivial ?_
        refine WpPi.split 50 rfl (fun hb => ?_) (fun hb => ?_)
        ·
          replace g_4 := Sh.ite_pos hb g_4
          obtain ⟨y_1, hy_1, g_4⟩ := Sh.bind_some g_4
          refine WpPi.pn 2 rfl trivial ?_
          refine WpPi.consI (v := (.rop (cGChoice_CTok y_1))) rfl rfl rfl rfl (fun _ => Exact.ixr cGChoice_CTok hy_1 rfl rfl rfl rfl (by kernel_rfl) (by decide)) ?_
          refine WpPi.pn 1 rfl trivial ?_
          refine WpPi.consI (v := (AV.agg (cGTok y_1.t))) rfl rfl rfl rfl (fun _ => Exact.load_rop rfl rfl rfl) ?_
          obtain ⟨y_2, hy_2, g_4⟩ := Sh.bind_some g_4
          refine WpPi.pn 2 rfl trivial ?_
          refine WpPi.consI (v := (.rop (cGTok y_2))) rfl rfl rfl rfl (fun _ => Exact.ixr cGTok hy_2 rfl rfl rfl rfl (by kernel_rfl) (by decide)) ?_
          refine WpPi.consI (v := (AV.agg (cGTok y_2))) rfl rfl rfl rfl (fun _ => Exact.load_rop rfl rfl rfl) ?_
          refine WpPi.consI (v := (bA (decide (y_1.t = y_2)))) rfl rfl rfl rfl (fun _ => Exact.eqStruct rfl rfl rfl (eqL_GTok y_1.t y_2) (by kernel_rfl) rfl (by kernel_rfl)) ?_
          refine WpPi.pn 1 rfl trivial ?_
          refine WpPi.nil ?_
          obtain rfl := Sh.some_inj g_4
          exact ⟨rfl, rfl⟩
        ·
          replace g_4 := Sh.ite_neg hb g_4
          refine WpPi.pn 2 rfl trivial ?_
          refine WpPi.skip rfl rfl rfl ?_
          refine WpPi.pn 1 rfl trivial ?_
          refine WpPi.skip rfl rfl rfl ?_
          refine WpPi.pn 2 rfl trivial ?_
          refine WpPi.skip rfl rfl rfl ?_
          refine WpPi.skip rfl rfl rfl ?_
          refine WpPi.pn 2 rfl trivial ?_
          refine WpPi.nil ?_
          obtain rfl := Sh.some_inj g_4
          exact ⟨rfl, rfl⟩
      intro env
      refine WpPi.pn 1 rfl trivial ?_
      refine WpPi.nil ?_
      refine WpC.condB rfl (fun hb => ?_) (fun hb => ?_)
      ·
        replace h := Sh.ite_pos hb h
        refine WpC.seqR ?_
        obtain ⟨y_3, hy_3, h⟩ := Sh.bind_some h
        refine WpOps.pn 3 rfl trivial ?_
        refine WpOps.consE (v := (.rop (cGChoice_CTok y_3))) rfl rfl (Exact.ixr cGChoice_CTok hy_3 rfl rfl rfl rfl (by kernel_rfl) (by decide)) ?_
        refine WpOps.pn 1 rfl trivial ?_
        refine WpOps.consE (v := (iA y_3.cond)) rfl rfl (Exact.load_rop rfl rfl rfl) ?_
        obtain ⟨r_2, hr_2, h⟩ := Sh.bind_some h
        refine WpOps.pn 1 rfl trivial ?_
        refine WpOps.consG rfl rfl (WpO.callT (v := (.tup [(iA r_2.1.1), (iA r_2.1.2)])) rfl rfl rfl hH (i := 1) rfl (fun H1 hl hh => w_bdd_Or hh hr_2) fun H' hH => ?_)
        refine WpOps.pn 5 rfl trivial ?_
        refine WpOps.nil ?_
        refine WpC.seqR ?_
        obtain ⟨y_4, hy_4, h⟩ := Sh.bind_some h
        refine WpOps.pn 3 rfl trivial ?_
        refine WpOps.consE (v := (.rop (cGChoice_CTok y_4))) rfl rfl (Exact.ixr cGChoice_CTok hy_4 rfl rfl rfl rfl (by kernel_rfl) (by decide)) ?_
        refine WpOps.pn 1 rfl trivial ?_
        refine WpOps.consE (v := (AV.agg (cGTok y_4.t))) rfl rfl (Exact.load_rop rfl rfl rfl) ?_
        refine WpOps.pn 2 rfl trivial ?_
        refine WpOps.consE (v := (AV.rows 7 (List.map cGChoice_CTok ([(GChoice_CTok.mk y_4.t r_2.1.1)] : List GChoice_CTok)))) rfl rfl (Exact.litSlice rfl (by kernel_rfl)) ?_
        obtain ⟨c_1, h⟩ := Sh.chk_some h
        refine WpOps.consG rfl rfl (WpO.pushT cGChoice_CTok out_1 ([(GChoice_CTok.mk y_4.t r_2.1.1)] : List GChoice_CTok) (i := 0) rfl ek31 hH rfl rfl rfl (.rows _) (fun y _ => one_cGChoice_CTok y) (by simp) c_1 (by decide) fun p_2 H' hH => ?_)
        refine WpOps.pn 1 rfl trivial ?_
        refine WpOps.nil ?_
        refine WpC.seqR ?_
        obtain ⟨c_2, h⟩ := Sh.chk_some h
        refine WpOps.pn 3 rfl c_2 ?_
        refine WpOps.nil ?_
        refine WpC.regionD ?_
        obtain ⟨c_3, h⟩ := Sh.chk_some h
        refine WpOps.pn 3 rfl c_3 ?_
        refine WpOps.nil ?_
        obtain rfl := Sh.some_inj h
        exact ⟨_, (Heap.le_refl _), ((i_1 + (1 : Int)), (k_1 + (1 : Int)), (out_1 ++ ([(GChoice_CTok.mk y_4.t r_2.1.1)] : List GChoice_CTok)), r_2.2), p_2, rfl, ⟨rfl, rfl, rfl, rfl, rfl, rfl, rfl, rfl, trivial⟩, hH⟩
      ·
        replace h := Sh.ite_neg hb h
        refine WpC.seqD [] [0, 1, 2, 3, 4, 5, 6, 7, 8, 9, 10, 11, 12, 13, 14, 15, 16, 17, 18, 19, 20, 21, 22, 23, 24, 25, 26, 27, 28, 29] (by kernel_rfl) (by kernel_rfl) ?_
        refine WpPi.pn 3 rfl trivial ?_
        refine WpPi.at 90 (len_map _ _) ?_
        refine WpPi.pn 1 rfl trivial ?_
        obtain ⟨b_4, g_5, h⟩ := Sh.bind_some h
        refine WpPi.cutB 25 116 (bA b_4) rfl ?_ ?_
        ·
          refine WpPi.pn 1 rfl trivial ?_
          refine WpPi.split 92 rfl (fun hb => ?_) (fun hb => ?_)
          ·
            replace g_5 := Sh.ite_pos hb g_5
            refine WpPi.pn 8 rfl trivial ?_
            refine WpPi.skip rfl rfl rfl ?_
            refine WpPi.skip rfl rfl rfl ?_
            refine WpPi.pn 1 rfl trivial ?_
            refine WpPi.skip rfl rfl rfl ?_
            refine WpPi.skip rfl rfl rfl ?_
            refine WpPi.pn 2 rfl trivial ?_
            refine WpPi.skip rfl rfl rfl ?_
            refine WpPi.skip rfl rfl rfl ?_
            refine WpPi.pn 2 rfl trivial ?_
            refine WpPi.skip rfl rfl rfl ?_
            refine WpPi.skip rfl rfl rfl ?_
            refine WpPi.pn 3 rfl trivial ?_
            refine WpPi.nil ?_
            obtain rfl := Sh.some_inj g_5
            exact ⟨rfl, rfl⟩
          ·
            replace g_5 := Sh.ite_neg hb g_5
            refine WpPi.pn 3 rfl trivial ?_
            refine WpPi.at 95 (len_map _ _) ?_
            refine WpPi.pn 1 rfl trivial ?_
            obtain ⟨b_5, g_6, g_5⟩ := Sh.bind_some g_5
            refine WpPi.cutB 19 115 (bA b_5) rfl ?_ ?_
            ·
              refine WpPi.pn 1 rfl trivial ?_
              refine WpPi.split 97 rfl (fun hb => ?_) (fun hb => ?_)
              ·
                replace g_6 := Sh.ite_pos hb g_6
                obtain ⟨c_4, g_6⟩ := Sh.chk_some g_6
                obtain ⟨y_5, hy_5, g_6⟩ := Sh.bind_some g_6
                refine WpPi.pn 3 rfl c_4 ?_
                refine WpPi.consI (v := (.rop ((cL 1 cI) y_5))) rfl rfl rfl rfl (fun _ => Exact.ixr (cL 1 cI) hy_5 rfl rfl rfl rfl (by kernel_rfl) (by decide)) ?_
                refine WpPi.consI (v := (AV.rows 1 (List.map cI y_5))) rfl rfl rfl rfl (fun _ => Exact.load_rop rfl rfl rfl) ?_
                obtain ⟨y_6, hy_6, g_6⟩ := Sh.bind_some g_6
                refine WpPi.pn 1 rfl trivial ?_
                refine WpPi.consI (v := (.rop (cI y_6))) rfl rfl rfl rfl (fun _ => Exact.ixr cI hy_6 rfl rfl rfl rfl (by kernel_rfl) (by decide)) ?_
                refine WpPi.consI (v := (iA y_6)) rfl rfl rfl rfl (fun _ => Exact.load_rop rfl rfl rfl) ?_
                obtain ⟨y_7, hy_7, g_6⟩ := Sh.bind_some g_6
                refine WpPi.pn 2 rfl trivial ?_
                refine WpPi.consI (v := (.rop ((cL 1 cI) y_7))) rfl rfl rfl rfl (fun _ => Exact.ixr (cL 1 cI) hy_7 rfl rfl rfl rfl (by kernel_rfl) (by decide)) ?_
                refine WpPi.consI (v := (AV.rows 1 (List.map cI y_7))) rfl rfl rfl rfl (fun _ => Exact.load_rop rfl rfl rfl) ?_
                obtain ⟨c_5, g_6⟩ := Sh.chk_some g_6
                obtain ⟨y_8, hy_8, g_6⟩ := Sh.bind_some g_6
                refine WpPi.pn 2 rfl c_5 ?_
                refine WpPi.consI (v := (.rop (cI y_8))) rfl rfl rfl rfl (fun _ => Exact.ixr cI hy_8 rfl rfl rfl rfl (by kernel_rfl) (by decide)) ?_
                refine WpPi.consI (v := (iA y_8)) rfl rfl rfl rfl (fun _ => Exact.load_rop rfl rfl rfl) ?_
                refine WpPi.pn 2 rfl trivial ?_
                refine WpPi.nil ?_
                obtain rfl := Sh.some_inj g_6
                exact ⟨rfl, rfl⟩
              ·
                replace g_6 := Sh.ite_neg hb g_6
                refine WpPi.pn 3 rfl trivial ?_
                refine WpPi.skip rfl rfl rfl ?_
                refine WpPi.skip rfl rfl rfl ?_
                refine WpPi.pn 1 rfl trivial ?_
                refine WpPi.skip rfl rfl rfl ?_
                refine WpPi.skip rfl rfl rfl ?_
                refine WpPi.pn 2 rfl trivial ?_
                refine WpPi.skip rfl rfl rfl ?_
                refine WpPi.skip rfl rfl rfl ?_
                refine WpPi.pn 2 rfl trivial ?_
                refine WpPi.skip rfl rfl rfl ?_
                refine WpPi.skip rfl rfl rfl ?_
                refine WpPi.pn 2 rfl trivial ?_
                refine WpPi.nil ?_
                obtain rfl := Sh.some_inj g_6
                exact ⟨rfl, rfl⟩
            intro env
            refine WpPi.pn 1 rfl trivial ?_
            refine WpPi.nil ?_
            obtain rfl := Sh.some_inj g_5
            exact ⟨rfl, rfl⟩
        intro env
        refine WpPi.pn 1 rfl trivial ?_
        refine WpPi.nil ?_
        refine WpC.condB rfl (fun hb => ?_) (fun hb => ?_)
        ·
          replace h := Sh.ite_pos hb h
          refine WpC.seqR ?_
          obtain ⟨y_9, hy_9, h⟩ := Sh.bind_some h
          refine WpOps.pn 3 rfl trivial ?_
          refine WpOps.consE (v := (.rop (cGChoice_CTok y_9))) rfl rfl (Exact.ixr cGChoice_CTok hy_9 rfl rfl rfl rfl (by kernel_rfl) (by decide)) ?_
          refine WpOps.consE (v := (AV.agg (cGChoice_CTok y_9))) rfl rfl (Exact.load_rop rfl rfl rfl) ?_
          refine WpOps.consE (v := (AV.rows 7 (List.map cGChoice_CTok ([y_9] : List GChoice_CTok)))) rfl rfl (Exact.litSlice rfl (by kernel_rfl)) ?_
          obtain ⟨c_6, h⟩ := Sh.chk_some h
          refine WpOps.consG rfl rfl (WpO.pushT cGChoice_CTok out_1 ([y_9] : List GChoice_CTok) (i := 0) rfl ek31 hH rfl rfl rfl (.rows _) (fun y _ => one_cGChoice_CTok y) (by simp) c_6 (by decide) fun p_3 H' hH => ?_)
          refine WpOps.pn 1 rfl trivial ?_
          refine WpOps.nil ?_
          refine WpC.regionD ?_
          obtain ⟨c_7, h⟩ := Sh.chk_some h
          refine WpOps.pn 3 rfl c_7 ?_
          refine WpOps.nil ?_
          obtain rfl := Sh.some_inj h
          exact ⟨_, (Heap.le_refl _), ((i_1 + (1 : Int)), k_1, (out_1 ++ ([y_9] : List GChoice_CTok)), a_2), p_3, rfl, ⟨rfl, rfl, rfl, rfl, rfl, rfl, rfl, rfl, trivial⟩, hH⟩
        ·
          replace h := Sh.ite_neg hb h
          refine WpC.seqR ?_
          obtain ⟨y_10, hy_10, h⟩ := Sh.bind_some h
          refine WpOps.pn 3 rfl trivial ?_
          refine WpOps.consE (v := (.rop (cGTok y_10))) rfl rfl (Exact.ixr cGTok hy_10 rfl rfl rfl rfl (by kernel_rfl) (by decide)) ?_
          refine WpOps.consE (v := (AV.agg (cGTok y_10))) rfl rfl (Exact.load_rop rfl rfl rfl) ?_
          refine WpOps.pn 2 rfl trivial ?_
          refine WpOps.consE (v := (AV.rows 7 (List.map cGChoice_CTok ([(GChoice_CTok.mk y_10 here_1)] : List GChoice_CTok)))) rfl rfl (Exact.litSlice rfl (by kernel_rfl)) ?_
          obtain ⟨c_8, h⟩ := Sh.chk_some h
          refine WpOps.consG rfl rfl (WpO.pushT cGChoice_CTok out_1 ([(GChoice_CTok.mk y_10 here_1)] : List GChoice_CTok) (i := 0) rfl ek31 hH rfl rfl rfl (.rows _) (fun y _ => one_cGChoice_CTok y) (by simp) c_8 (by decide) fun p_4 H' hH => ?_)
          refine WpOps.pn 1 rfl trivial ?_
          refine WpOps.nil ?_
          refine WpC.regionD ?_
          obtain ⟨c_9, h⟩ := Sh.chk_some h
          refine WpOps.pn 3 rfl c_9 ?_
          refine WpOps.nil ?_
          obtain rfl := Sh.some_inj h
          exact ⟨_, (Heap.le_refl _), (i_1, (k_1 + (1 : Int)), (out_1 ++ ([(GChoice_CTok.mk y_10 here_1)] : List GChoice_CTok)), a_2), p_4, rfl, ⟨rfl, rfl, rfl, rfl, rfl, rfl, rfl, rfl, trivial⟩, hH⟩
    ·
      replace h := Sh.ite_neg hb h
      obtain rfl := Sh.some_inj h
      have e := hd_1 _ rfl
      subst e
      refine WpC.exit ?_
      exact ⟨((out_1, a_2), p_1), ⟨rfl, trivial⟩, hk_1, hH⟩
  ·
    rintro ⟨⟨out_2, a_3⟩, p_5⟩ env H' ⟨h, hH⟩
    try dsimp only at h
    refine WpC.seqR ?_
    refine WpOps.pn 2 rfl trivial ?_
    refine WpOps.nil ?_
    refine WpC.freeze (t := 8) (i := 0) hH rfl rfl (fun H' hH => ?_)
    obtain rfl := Sh.some_inj h
    refine WpC.ret ?_
    exact VEnds.ret1 rfl rfl ⟨rfl, hH⟩

theorem w_choice_set {H0 H : Heap} {g_1 : Nat} {a_1 : GArena} {n_1 : Int} (hH : Holds H0 [.many (arP g_1 a_1)] H) {r : (Int) × GArena} (h : choice_set a_1 n_1 = some r) : TCall Tryd.prog 28 [(.lit (.pointer (some ⟨g_1, 0, none⟩))), (iA n_1)] H (fun v H' => v = (iA r.1) ∧ Holds H0 [.many (arP g_1 r.2)] H') noE := by
  refine TCall.body Tryd.func28 rfl rfl ?_
  refine WpC.seqR ?_
  refine WpOps.pn 1 rfl trivial ?_
  refine WpOps.nil ?_
  refine WpC.seqR ?_
  refine WpOps.pn 1 rfl trivial ?_
  refine WpOps.nil ?_
  refine WpC.seq ?_
  refine WpC.seqR ?_
  obtain ⟨r_1, hr_1, h⟩ := Sh.bind_some h
  refine WpOps.pn 1 rfl trivial ?_
  refine WpOps.consG rfl rfl (WpO.callT (v := (iA r_1.1)) rfl rfl rfl hH (i := 0) rfl (fun H1 hl hh => w_bdd_Vars hh hr_1) fun H' hH => ?_)
  refine WpOps.pn 1 rfl trivial ?_
  refine WpOps.nil ?_
  refine WpC.blockK (fun x : (Int × GArena) × (Unit) => [(5, (iA x.1.1))]) (fun x H' => choice_set_j1 x.1 = some r ∧ Holds H0 [.many (arP g_1 x.1.2)] H') ?_ ?_
  ·
    obtain ⟨o_1, ho_1, hk_1⟩ := Sh.bind_some h
    refine WpC.loopS (choice_set_b2 n_1 r_1) (fun (s : Int × Int × GArena) (a : Unit) => [(0, (.lit (.pointer (some ⟨g_1, 0, none⟩)))), (1, (iA n_1)), (5, (iA s.1)), (10, (iA r_1.1)), (11, (iA s.2.1))]) (fun (s : Int × Int × GArena) (a : Unit) H' => Holds H0 [.many (arP g_1 s.2.2)] H') o_1 ((1 : Int), (0 : Int), r_1.2) () ho_1 ⟨rfl, rfl, rfl, rfl, rfl, trivial⟩ hH ?_
    rintro ⟨out_1, t11_1, a_2⟩ _ st_1 env H' h hd_1 hH
    refine WpC.seqR ?_
    refine WpOps.pn 1 rfl trivial ?_
    refine WpOps.nil ?_
    refine WpC.seq ?_
    refine WpC.condB rfl (fun hb => ?_) (fun hb => ?_)
    ·
      replace h := Sh.ite_pos hb h
      refine WpC.skipD ?_
      refine ⟨_, Heap.le_refl _, ?_⟩
      refine WpC.seq ?_
      refine WpC.block ?_
      refine WpC.seqR ?_
      refine WpOps.pn 2 rfl trivial ?_
      refine WpOps.nil ?_
      refine WpC.seqR ?_
      obtain ⟨r_2, hr_2, h⟩ := Sh.bind_some h
      refine WpOps.pn 2 rfl trivial ?_
      refine WpOps.consG rfl rfl (WpO.callT (v := (.tup [(iA r_2.1.1), (iA r_2.1.2)])) rfl rfl rfl hH (i := 0) rfl (fun H1 hl hh => w_bdd_Var hh hr_2) fun H' hH => ?_)
      refine WpOps.pn 5 rfl trivial ?_
      refine WpOps.nil ?_
      refine WpC.seqK (fun x : (Int × GArena) × (Unit) => [(0, (.lit (.pointer (some ⟨g_1, 0, none⟩)))), (1, (iA n_1)), (5, (iA out_1)), (7, (iA x.1.1)), (10, (iA r_1.1)), (11, (iA t11_1))]) (fun x H' => (choice_set_j3 out_1 t11_1) x.1 = some st_1 ∧ Holds H0 [.many (arP g_1 x.1.2)] H') ?_ ?_
      ·
        refine WpC.seqR ?_
        obtain ⟨c_1, h⟩ := Sh.chk_some h
        refine WpOps.pn 5 rfl c_1 ?_
        refine WpOps.nil ?_
        refine WpC.condB rfl (fun hb => ?_) (fun hb => ?_)
        ·
          replace h := Sh.ite_pos hb h
          refine WpC.regionD ?_
          obtain ⟨r_3, hr_3, h⟩ := Sh.bind_some h
          refine WpOps.pn 2 rfl trivial ?_
          refine WpOps.consG rfl rfl (WpO.callT (v := (.tup [(iA r_3.1.1), (iA r_3.1.2)])) rfl rfl rfl hH (i := 0) rfl (fun H1 hl hh => w_bdd_Not hh hr_3) fun H' hH => ?_)
          refine WpOps.pn 4 rfl trivial ?_
          refine WpOps.nil ?_
          exact ⟨_, (Heap.le_refl _), ((r_3.1.1, r_3.2), ()), ⟨rfl, rfl, rfl, rfl, rfl, rfl, trivial⟩, h, hH⟩
        ·
          replace h := Sh.ite_neg hb h
          refine WpC.skipD ?_
          exact ⟨_, (Heap.le_refl _), ((r_2.1.1, r_2.2), ()), ⟨rfl, rfl, rfl, rfl, rfl, rfl, trivial⟩, h, hH⟩
      ·
        rintro ⟨⟨v_1, a_3⟩, _⟩ env H' ⟨h, hH⟩
        try dsimp only at h
        refine WpC.regionD ?_
        obtain ⟨r_4, hr_4, h⟩ := Sh.bind_some h
        refine WpOps.pn 3 rfl trivial ?_
        refine WpOps.consG rfl rfl (WpO.callT (v := (.tup [(iA r_4.1.1), (iA r_4.1.2)])) rfl rfl rfl hH (i := 0) rfl (fun H1 hl hh => w_bdd_And hh hr_4) fun H' hH => ?_)
        refine WpOps.pn 4 rfl trivial ?_
        refine WpOps.nil ?_
        refine ⟨_, Heap.le_refl _, ?_⟩
        refine WpC.regionD ?_
        obtain ⟨c_2, h⟩ := Sh.chk_some h
        refine WpOps.pn 2 rfl c_2 ?_
        refine WpOps.nil ?_
        obtain rfl := Sh.some_inj h
        exact ⟨_, (Heap.le_refl _), (r_4.1.1, (t11_1 + (1 : Int)), r_4.2), (), rfl, ⟨rfl, rfl, rfl, rfl, rfl, trivial⟩, hH⟩
    ·
      replace h := Sh.ite_neg hb h
      obtain rfl := Sh.some_inj h
      have e := hd_1 _ rfl
      subst e
      refine WpC.exit ?_
      exact ⟨((out_1, a_2), ()), ⟨rfl, trivial⟩, hk_1, hH⟩
  ·
    rintro ⟨⟨out_2, a_4⟩, _⟩ env H' ⟨h, hH⟩
    try dsimp only at h
    refine ⟨_, Heap.le_refl _, ?_⟩
    refine WpC.seqR ?_
    refine WpOps.pn 2 rfl trivial ?_
    refine WpOps.nil ?_
    obtain rfl := Sh.some_inj h
    refine WpC.ret ?_
    exact VEnds.ret1 rfl rfl ⟨rfl, hH⟩

theorem w_choice_Merge {H0 H : Heap} {g_1 : Nat} {a_1 : GArena} {lists_1 : List (List GTok)} (hH : Holds H0 [.many (arP g_1 a_1)] H) {r : (List GChoice_CTok × Int) × GArena} (h : choice_Merge a_1 lists_1 = some r) : TCall Tryd.prog 11 [(.lit (.pointer (some ⟨g_1, 0, none⟩))), (AV.rows 1 (List.map (cL 6 cGTok) lists_1))] H (fun v H' => v = (.tup [(AV.rows 7 (List.map cGChoice_CTok r.1.1)), (iA r.1.2)]) ∧ Holds H0 [.many (arP g_1 r.2)] H') noE := by
  refine TCall.body Tryd.func11 rfl rfl ?_
  refine WpC.seqR ?_
  refine WpOps.pn 2 rfl trivial ?_
  refine WpOps.nil ?_
  refine WpC.seq ?_
  refine WpC.seqR ?_
  refine WpOps.pn 2 rfl trivial ?_
  refine WpOps.at 21 (len_map _ _) ?_
  obtain ⟨r_1, hr_1, h⟩ := Sh.bind_some h
  refine WpOps.pn 1 rfl trivial ?_
  refine WpOps.consG rfl rfl (WpO.callT (v := (iA r_1.1)) rfl rfl rfl hH (i := 0) rfl (fun H1 hl hh => w_bdd_Vars hh hr_1) fun H' hH => ?_)
  obtain ⟨c_1, h⟩ := Sh.chk_some h
  refine WpOps.pn 2 rfl c_1 ?_
  refine WpOps.nil ?_
  refine WpC.condB rfl (fun hb => ?_) (fun hb => ?_)
  ·
    replace h := Sh.ite_pos hb h
    refine WpC.seqR ?_
    refine WpOps.pn 2 rfl trivial ?_
    refine WpOps.nil ?_
    refine WpC.sub (t := 4) (Sub.nil 7) ?_
    obtain rfl := Sh.some_inj h
    refine WpC.ret ?_
    exact VEnds.ret2 rfl rfl rfl ⟨rfl, hH⟩
  ·
    replace h := Sh.ite_neg hb h
    refine WpC.skipD ?_
    refine ⟨_, Heap.le_refl _, ?_⟩
    refine WpC.seqD [] [0, 1, 2, 3, 4, 5, 6] (by kernel_rfl) (by kernel_rfl) ?_
    obtain ⟨y_1, hy_1, h⟩ := Sh.bind_some h
    refine WpPi.pn 1 rfl trivial ?_
    refine WpPi.consI (v := (.rop ((cL 6 cGTok) y_1))) rfl rfl rfl rfl (fun _ => Exact.ixr (cL 6 cGTok) hy_1 rfl rfl rfl rfl (by kernel_rfl) (by decide)) ?_
    refine WpPi.consI (v := (AV.rows 6 (List.map cGTok y_1))) rfl rfl rfl rfl (fun _ => Exact.load_rop rfl rfl rfl) ?_
    obtain ⟨c_2, h⟩ := Sh.chk_some h
    refine WpPi.pn 1 rfl trivial ?_
    refine WpPi.pn 1 rfl (show 0 ≤ (1 : Int) ∧ True ∧ True ∧ ((1 : Int)).toNat ≤ (List.map (cL 6 cGTok) lists_1).length ∧ True from ⟨(by omega), trivial, trivial, (by simp only [List.length_map]; omega), trivial⟩) ?_
    refine WpPi.at 30 (rows_drop 1 (cL 6 cGTok) lists_1 _) ?_
    obtain ⟨r_2, hr_2, h⟩ := Sh.bind_some h
    refine WpPi.consI (v := (iA r_2)) rfl rfl rfl rfl (fun _ => Exact.call rfl rfl rfl (w_choice_begin hr_2)) ?_
    refine WpPi.pn 1 rfl trivial ?_
    refine WpPi.nil ?_
    refine WpC.seqR ?_
    refine WpOps.pn 1 rfl trivial ?_
    have hH := hH.nil 35 1
    refine WpOps.nil ?_
    refine WpC.seq ?_
    refine WpC.seqR ?_
    refine WpOps.pn 2 rfl trivial ?_
    refine WpOps.at 33 (len_map _ _) ?_
    refine WpOps.pn 1 rfl trivial ?_
    refine WpOps.nil ?_
    refine WpC.blockK (fun x : (List (List GTok)) × ((Option (Nat × Nat))) => [(0, (.lit (.pointer (some ⟨g_1, 0, none⟩)))), (1, (AV.rows 1 (List.map (cL 6 cGTok) lists_1))), (6, (iA r_2)), (7, (.own (List.map (cL 6 cGTok) x.1).length x.2))]) (fun x H' => (choice_Merge_j1 lists_1 r_1 r_2) x.1 = some r ∧ Holds H0 [.own 35 1 x.2 (List.map (cL 6 cGTok) x.1), .many (arP g_1 r_1.2)] H') ?_ ?_
    ·
      obtain ⟨o_1, ho_1, hk_1⟩ := Sh.bind_some h
      refine WpC.loopS (choice_Merge_b2 lists_1 r_2) (fun (s : Int × List (List GTok)) (a : (Option (Nat × Nat))) => [(0, (.lit (.pointer (some ⟨g_1, 0, none⟩)))), (1, (AV.rows 1 (List.map (cL 6 cGTok) lists_1))), (6, (iA r_2)), (7, (.own (List.map (cL 6 cGTok) s.2).length a)), (32, (AV.rows 1 (List.map (cL 6 cGTok) lists_1))), (33, (iA (lists_1.length : Int))), (34, (iA s.1))]) (fun (s : Int × List (List GTok)) (a : (Option (Nat × Nat))) H' => Holds H0 [.own 35 1 a (List.map (cL 6 cGTok) s.2), .many (arP g_1 r_1.2)] H') o_1 ((0 : Int), ([] : List (List GTok))) none ho_1 ⟨rfl, rfl, rfl, rfl, rfl, rfl, rfl, trivial⟩ hH ?_
      rintro ⟨t34_1, rest_1⟩ p_1 st_1 env H' h hd_1 hH
      refine WpC.seqR ?_
      refine WpOps.pn 1 rfl trivial ?_
      refine WpOps.nil ?_
      refine WpC.seq ?_
      refine WpC.condB rfl (fun hb => ?_) (fun hb => ?_)
      ·
        replace h := Sh.ite_pos hb h
        refine WpC.skipD ?_
        refine ⟨_, Heap.le_refl _, ?_⟩
        refine WpC.seq ?_
        refine WpC.block ?_
        refine WpC.seqR ?_
        obtain ⟨y_2, hy_2, h⟩ := Sh.bind_some h
        refine WpOps.consE (v := (.rop ((cL 6 cGTok) y_2))) rfl rfl (Exact.ixr (cL 6 cGTok) hy_2 rfl rfl rfl rfl (by kernel_rfl) (by decide)) ?_
        refine WpOps.consE (v := (AV.rows 6 (List.map cGTok y_2))) rfl rfl (Exact.load_rop rfl rfl rfl) ?_
        refine WpOps.pn 1 rfl trivial ?_
        refine WpOps.nil ?_
        refine WpC.regionD ?_
        obtain ⟨c_3, h⟩ := Sh.chk_some h
        refine WpOps.pn 3 rfl trivial ?_
        refine WpOps.pn 1 rfl (show 0 ≤ r_2 ∧ True ∧ True ∧ (r_2).toNat ≤ (List.map cGTok y_2).length ∧ True from ⟨(by omega), trivial, trivial, (by simp only [List.length_map]; omega), trivial⟩) ?_
        refine WpOps.at 41 (rows_drop 6 cGTok y_2 _) ?_
        refine WpOps.consE (v := (AV.rows 1 (List.map (cL 6 cGTok) ([(y_2.drop (r_2).toNat)] : List (List GTok))))) rfl rfl (Exact.litSlice rfl (by kernel_rfl)) ?_
        obtain ⟨c_4, h⟩ := Sh.chk_some h
        refine WpOps.consG rfl rfl (WpO.pushT (cL 6 cGTok) rest_1 ([(y_2.drop (r_2).toNat)] : List (List GTok)) (i := 0) rfl ek24 hH rfl rfl rfl (.rows _) (fun y _ => (one_cL _ _) y) (by simp) c_4 (by decide) fun p_2 H' hH => ?_)
        refine WpOps.pn 1 rfl trivial ?_
        refine WpOps.nil ?_
        refine ⟨_, Heap.le_refl _, ?_⟩
        refine WpC.regionD ?_
        obtain ⟨c_5, h⟩ := Sh.chk_some h
        refine WpOps.pn 2 rfl c_5 ?_
        refine WpOps.nil ?_
        obtain rfl := Sh.some_inj h
        exact ⟨_, (Heap.le_refl _), ((t34_1 + (1 : Int)), (rest_1 ++ ([(y_2.drop (r_2).toNat)] : List (List GTok)))), p_2, rfl, ⟨rfl, rfl, rfl, rfl, rfl, rfl, rfl, trivial⟩, hH⟩
      ·
        replace h := Sh.ite_neg hb h
        obtain rfl := Sh.some_inj h
        have e := hd_1 _ rfl
        subst e
        refine WpC.exit ?_
        exact ⟨(rest_1, p_1), ⟨rfl, rfl, rfl, rfl, trivial⟩, hk_1, hH⟩
    ·
      rintro ⟨rest_2, p_3⟩ env H' ⟨h, hH⟩
      try dsimp only at h
      refine ⟨_, Heap.le_refl _, ?_⟩
      refine WpC.freeze (t := 7) (i := 0) hH rfl rfl (fun H' hH => ?_)
      refine WpC.seqR ?_
      obtain ⟨r_3, hr_3, h⟩ := Sh.bind_some h
      refine WpOps.pn 1 rfl trivial ?_
      refine WpOps.consE (v := (AV.rows 1 (List.map (cL 6 cGTok) r_3))) rfl rfl (Exact.call rfl rfl rfl (w_choice_turned hr_3)) ?_
      refine WpOps.pn 1 rfl trivial ?_
      refine WpOps.nil ?_
      refine WpC.seqD [] [0, 1, 2, 3, 4, 5, 6] (by kernel_rfl) (by kernel_rfl) ?_
      obtain ⟨y_3, hy_3, h⟩ := Sh.bind_some h
      refine WpPi.pn 1 rfl trivial ?_
      refine WpPi.consI (v := (.rop ((cL 6 cGTok) y_3))) rfl rfl rfl rfl (fun _ => Exact.ixr (cL 6 cGTok) hy_3 rfl rfl rfl rfl (by kernel_rfl) (by decide)) ?_
      refine WpPi.consI (v := (AV.rows 6 (List.map cGTok y_3))) rfl rfl rfl rfl (fun _ => Exact.load_rop rfl rfl rfl) ?_
      obtain ⟨c_6, h⟩ := Sh.chk_some h
      refine WpPi.pn 1 rfl trivial ?_
      refine WpPi.pn 1 rfl (show 0 ≤ (1 : Int) ∧ True ∧ True ∧ ((1 : Int)).toNat ≤ (List.map (cL 6 cGTok) r_3).length ∧ True from ⟨(by omega), trivial, trivial, (by simp only [List.length_map]; omega), trivial⟩) ?_
      refine WpPi.at 51 (rows_drop 1 (cL 6 cGTok) r_3 _) ?_
      obtain ⟨r_4, hr_4, h⟩ := Sh.bind_some h
      refine WpPi.consI (v := (iA r_4)) rfl rfl rfl rfl (fun _ => Exact.call rfl rfl rfl (w_choice_begin hr_4)) ?_
      refine WpPi.pn 1 rfl trivial ?_
      refine WpPi.nil ?_
      refine WpC.seqR ?_
      refine WpOps.pn 2 rfl trivial ?_
      have hH := hH.nil 43 7
      refine WpOps.nil ?_
      refine WpC.seq ?_
      refine WpC.seqR ?_
      refine WpOps.pn 2 rfl trivial ?_
      refine WpOps.at 54 (len_map _ _) ?_
      refine WpOps.pn 1 rfl trivial ?_
      refine WpOps.nil ?_
      refine WpC.sub (t := 12) (Sub.nil 7) ?_
      refine WpC.blockK (fun x : (List GChoice_CTok × GArena) × (Unit) => [(1, (AV.rows 1 (List.map (cL 6 cGTok) lists_1))), (6, (iA r_2)), (7, (AV.rows 1 (List.map (cL 6 cGTok) rest_2))), (11, (iA r_4)), (12, (AV.rows 7 (List.map cGChoice_CTok x.1.1))), (13, (.own (List.map cGChoice_CTok ([] : List GChoice_CTok)).length none))]) (fun x H' => (choice_Merge_j3 lists_1 r_2 rest_2 r_4) x.1 = some r ∧ Holds H0 [.own 43 7 none (List.map cGChoice_CTok ([] : List GChoice_CTok)), .many (arP g_1 x.1.2)] H') ?_ ?_
      ·
        obtain ⟨o_2, ho_2, hk_2⟩ := Sh.bind_some h
        refine WpC.loopS (choice_Merge_b4 rest_2 r_4) (fun (s : List GChoice_CTok × Int × GArena) (a : Unit) => [(0, (.lit (.pointer (some ⟨g_1, 0, none⟩)))), (1, (AV.rows 1 (List.map (cL 6 cGTok) lists_1))), (6, (iA r_2)), (7, (AV.rows 1 (List.map (cL 6 cGTok) rest_2))), (11, (iA r_4)), (12, (AV.rows 7 (List.map cGChoice_CTok s.1))), (13, (.own (List.map cGChoice_CTok ([] : List GChoice_CTok)).length none)), (53, (AV.rows 1 (List.map (cL 6 cGTok) rest_2))), (54, (iA (rest_2.length : Int))), (55, (iA s.2.1))]) (fun (s : List GChoice_CTok × Int × GArena) (a : Unit) H' => Holds H0 [.own 43 7 none (List.map cGChoice_CTok ([] : List GChoice_CTok)), .many (arP g_1 s.2.2)] H') o_2 (([] : List GChoice_CTok), (0 : Int), r_1.2) () ho_2 ⟨rfl, rfl, rfl, rfl, rfl, rfl, rfl, rfl, rfl, rfl, trivial⟩ hH ?_
        rintro ⟨middle_1, t55_1, a_2⟩ _ st_2 env H' h hd_2 hH
        refine WpC.seqR ?_
        refine WpOps.pn 1 rfl trivial ?_
        refine WpOps.nil ?_
        refine WpC.seq ?_
        refine WpC.condB rfl (fun hb => ?_) (fun hb => ?_)
        ·
          replace h := Sh.ite_pos hb h
          refine WpC.skipD ?_
          refine ⟨_, Heap.le_refl _, ?_⟩
          refine WpC.seq ?_
          refine WpC.block ?_
          refine WpC.seqR ?_
          obtain ⟨y_4, hy_4, h⟩ := Sh.bind_some h
          refine WpOps.pn 1 rfl trivial ?_
          refine WpOps.consE (v := (.rop ((cL 6 cGTok) y_4))) rfl rfl (Exact.ixr (cL 6 cGTok) hy_4 rfl rfl rfl rfl (by kernel_rfl) (by decide)) ?_
          refine WpOps.consE (v := (AV.rows 6 (List.map cGTok y_4))) rfl rfl (Exact.load_rop rfl rfl rfl) ?_
          refine WpOps.pn 2 rfl trivial ?_
          refine WpOps.nil ?_
          refine WpC.drawD [.I, .I, .I, .I, .I, .I, .I, .I, .I, .I, .E, .E] [0, 1, 2, 3, 4, 5, 6, 7, 8, 9, 10, 11, 12] (by kernel_rfl) (by kernel_rfl) ?_
          refine WpPi.pn 5 rfl trivial ?_
          refine WpPi.at 64 (len_map _ _) ?_
          obtain ⟨c_7, h⟩ := Sh.chk_some h
          obtain ⟨c_8, h⟩ := Sh.chk_some h
          refine WpPi.pn 2 rfl c_7 ?_
          refine WpPi.pn 1 rfl (show True ∧ 0 ≤ ((y_4.length : Int) - r_4) ∧ True ∧ (((y_4.length : Int) - r_4)).toNat ≤ (List.map cGTok y_4).length ∧ True from ⟨trivial, (by omega), trivial, (by simp only [List.length_map]; omega), trivial⟩) ?_
          refine WpPi.at 67 (rows_take 6 cGTok y_4 _) ?_
          obtain ⟨r_5, hr_5, h⟩ := Sh.bind_some h
          refine WpPi.pn 2 rfl trivial ?_
          refine WpPi.consE rfl rfl rfl rfl (WpO.callT (v := (iA r_5.1)) rfl rfl rfl hH (i := 1) rfl (fun H1 hl hh => w_choice_set hh hr_5) fun H' hH => ?_)
          obtain ⟨r_6, hr_6, h⟩ := Sh.bind_some h
          refine WpPi.consE rfl rfl rfl rfl (WpO.callT (v := (AV.rows 7 (List.map cGChoice_CTok r_6.1))) rfl rfl rfl hH (i := 1) rfl (fun H1 hl hh => w_choice_into hh hr_6) fun H' hH => ?_)
          refine WpPi.pn 1 rfl trivial ?_
          refine WpPi.nil ?_
          refine ⟨_, Heap.le_refl _, ?_⟩
          refine WpC.regionD ?_
          obtain ⟨c_9, h⟩ := Sh.chk_some h
          refine WpOps.pn 2 rfl c_9 ?_
          refine WpOps.nil ?_
          obtain rfl := Sh.some_inj h
          exact ⟨_, (Heap.le_refl _), (r_6.1, (t55_1 + (1 : Int)), r_6.2), (), rfl, ⟨rfl, rfl, rfl, rfl, rfl, rfl, rfl, rfl, rfl, rfl, trivial⟩, hH⟩
        ·
          replace h := Sh.ite_neg hb h
          obtain rfl := Sh.some_inj h
          have e := hd_2 _ rfl
          subst e
          refine WpC.exit ?_
          exact ⟨((middle_1, a_2), ()), ⟨rfl, rfl, rfl, rfl, rfl, rfl, trivial⟩, hk_2, hH⟩
      ·
        rintro ⟨⟨middle_2, a_3⟩, _⟩ env H' ⟨h, hH⟩
        try dsimp only at h
        refine ⟨_, Heap.le_refl _, ?_⟩
        refine WpC.seq ?_
        refine WpC.seqR ?_
        obtain ⟨y_5, hy_5, h⟩ := Sh.bind_some h
        refine WpOps.pn 1 rfl trivial ?_
        refine WpOps.consE (v := (.rop ((cL 6 cGTok) y_5))) rfl rfl (Exact.ixr (cL 6 cGTok) hy_5 rfl rfl rfl rfl (by kernel_rfl) (by decide)) ?_
        refine WpOps.consE (v := (AV.rows 6 (List.map cGTok y_5))) rfl rfl (Exact.load_rop rfl rfl rfl) ?_
        obtain ⟨c_10, h⟩ := Sh.chk_some h
        refine WpOps.pn 1 rfl trivial ?_
        refine WpOps.pn 1 rfl (show True ∧ 0 ≤ r_2 ∧ True ∧ (r_2).toNat ≤ (List.map cGTok y_5).length ∧ True from ⟨trivial, (by omega), trivial, (by simp only [List.length_map]; omega), trivial⟩) ?_
        refine WpOps.at 77 (rows_take 6 cGTok y_5 _) ?_
        refine WpOps.pn 1 rfl trivial ?_
        refine WpOps.at 78 (len_map _ _) ?_
        refine WpOps.pn 1 rfl trivial ?_
        refine WpOps.nil ?_
        refine WpC.blockK (fun x : (List GChoice_CTok) × ((Option (Nat × Nat))) => [(7, (AV.rows 1 (List.map (cL 6 cGTok) rest_2))), (11, (iA r_4)), (12, (AV.rows 7 (List.map cGChoice_CTok middle_2))), (13, (.own (List.map cGChoice_CTok x.1).length x.2))]) (fun x H' => (choice_Merge_j5 rest_2 r_4 middle_2 a_3) x.1 = some r ∧ Holds H0 [.own 43 7 x.2 (List.map cGChoice_CTok x.1), .many (arP g_1 a_3)] H') ?_ ?_
        ·
          obtain ⟨o_3, ho_3, hk_3⟩ := Sh.bind_some h
          refine WpC.loopS (choice_Merge_b6 r_2 y_5) (fun (s : Int × List GChoice_CTok) (a : (Option (Nat × Nat))) => [(7, (AV.rows 1 (List.map (cL 6 cGTok) rest_2))), (11, (iA r_4)), (12, (AV.rows 7 (List.map cGChoice_CTok middle_2))), (13, (.own (List.map cGChoice_CTok s.2).length a)), (77, (AV.rows 6 (List.map cGTok (y_5.take (r_2).toNat)))), (78, (iA ((y_5.take (r_2).toNat).length : Int))), (79, (iA s.1))]) (fun (s : Int × List GChoice_CTok) (a : (Option (Nat × Nat))) H' => Holds H0 [.own 43 7 a (List.map cGChoice_CTok s.2), .many (arP g_1 a_3)] H') o_3 ((0 : Int), ([] : List GChoice_CTok)) none ho_3 ⟨rfl, rfl, rfl, rfl, rfl, rfl, rfl, trivial⟩ hH ?_
          rintro ⟨t79_1, out_1⟩ p_4 st_3 env H' h hd_3 hH
          refine WpC.seqR ?_
          refine WpOps.pn 1 rfl trivial ?_
          refine WpOps.nil ?_
          refine WpC.seq ?_
          refine WpC.condB rfl (fun hb => ?_) (fun hb => ?_)
          ·
            replace h := Sh.ite_pos hb h
            refine WpC.skipD ?_
            refine ⟨_, Heap.le_refl _, ?_⟩
            refine WpC.seq ?_
            refine WpC.block ?_
            refine WpC.seqR ?_
            obtain ⟨y_6, hy_6, h⟩ := Sh.bind_some h
            refine WpOps.consE (v := (.rop (cGTok y_6))) rfl rfl (Exact.ixr cGTok hy_6 rfl rfl rfl rfl (by kernel_rfl) (by decide)) ?_
            refine WpOps.consE (v := (AV.agg (cGTok y_6))) rfl rfl (Exact.load_rop rfl rfl rfl) ?_
            refine WpOps.consG rfl rfl (WpO.allocT (z := cGTok (GTok.mk (0 : Int) ([] : List UInt8) (0 : Int) (0 : Int) (0 : Int) false)) rfl rfl hH fun g_2 H' hH => ?_)
            refine WpOps.consG rfl rfl (WpO.putT (cs' := (cGTok y_6)) (v := (AV.agg (cGTok y_6))) rfl rfl hH (i := 0) rfl rfl rfl rfl rfl rfl rfl fun H' hH => ?_)
            refine WpOps.nil ?_
            refine WpC.regionD ?_
            refine WpOps.pn 1 rfl trivial ?_
            refine WpOps.consE (v := (AV.agg (cGTok y_6))) rfl rfl (Exact.load rfl rfl (hH.cell (i := 0) rfl) rfl rfl) ?_
            refine WpOps.pn 1 rfl trivial ?_
            refine WpOps.consE (v := (AV.rows 7 (List.map cGChoice_CTok ([(GChoice_CTok.mk y_6 (1 : Int))] : List GChoice_CTok)))) rfl rfl (Exact.litSlice rfl (by kernel_rfl)) ?_
            obtain ⟨c_11, h⟩ := Sh.chk_some h
            refine WpOps.consG rfl rfl (WpO.pushT cGChoice_CTok out_1 ([(GChoice_CTok.mk y_6 (1 : Int))] : List GChoice_CTok) (i := 1) rfl ek31 hH rfl rfl rfl (.rows _) (fun y _ => one_cGChoice_CTok y) (by simp) c_11 (by decide) fun p_5 H' hH => ?_)
            refine WpOps.pn 1 rfl trivial ?_
            refine WpOps.nil ?_
            refine ⟨_, Heap.le_refl _, ?_⟩
            refine WpC.regionD ?_
            obtain ⟨c_12, h⟩ := Sh.chk_some h
            refine WpOps.pn 2 rfl c_12 ?_
            refine WpOps.nil ?_
            obtain ⟨_, hle_1, hH⟩ := hH.lose_ (i := 0) rfl
            obtain rfl := Sh.some_inj h
            exact ⟨_, hle_1, ((t79_1 + (1 : Int)), (out_1 ++ ([(GChoice_CTok.mk y_6 (1 : Int))] : List GChoice_CTok))), p_5, rfl, ⟨rfl, rfl, rfl, rfl, rfl, rfl, rfl, trivial⟩, hH⟩
          ·
            replace h := Sh.ite_neg hb h
            obtain rfl := Sh.some_inj h
            have e := hd_3 _ rfl
            subst e
            refine WpC.exit ?_
            exact ⟨(out_1, p_4), ⟨rfl, rfl, rfl, rfl, trivial⟩, hk_3, hH⟩
        ·
          rintro ⟨out_2, p_6⟩ env H' ⟨h, hH⟩
          try dsimp only at h
          refine ⟨_, Heap.le_refl _, ?_⟩
          refine WpC.seqR ?_
          obtain ⟨c_13, h⟩ := Sh.chk_some h
          refine WpOps.pn 2 rfl trivial ?_
          refine WpOps.consG rfl rfl (WpO.pushA cGChoice_CTok out_2 middle_2 (i := 0) rfl ek31 hH rfl rfl rfl (.rows _) (fun y _ => one_cGChoice_CTok y) c_13 (by decide) fun p_7 H' hH => ?_)
          refine WpOps.pn 1 rfl trivial ?_
          refine WpOps.nil ?_
          refine WpC.seq ?_
          refine WpC.seqD [] [0, 1, 2, 3, 4, 5, 6, 7, 8, 9, 10, 11] (by kernel_rfl) (by kernel_rfl) ?_
          obtain ⟨y_7, hy_7, h⟩ := Sh.bind_some h
          refine WpPi.pn 1 rfl trivial ?_
          refine WpPi.consI (v := (.rop ((cL 6 cGTok) y_7))) rfl rfl rfl rfl (fun _ => Exact.ixr (cL 6 cGTok) hy_7 rfl rfl rfl rfl (by kernel_rfl) (by decide)) ?_
          refine WpPi.consI (v := (AV.rows 6 (List.map cGTok y_7))) rfl rfl rfl rfl (fun _ => Exact.load_rop rfl rfl rfl) ?_
          obtain ⟨y_8, hy_8, h⟩ := Sh.bind_some h
          refine WpPi.pn 1 rfl trivial ?_
          refine WpPi.consI (v := (.rop ((cL 6 cGTok) y_8))) rfl rfl rfl rfl (fun _ => Exact.ixr (cL 6 cGTok) hy_8 rfl rfl rfl rfl (by kernel_rfl) (by decide)) ?_
          refine WpPi.consI (v := (AV.rows 6 (List.map cGTok y_8))) rfl rfl rfl rfl (fun _ => Exact.load_rop rfl rfl rfl) ?_
          refine WpPi.pn 1 rfl trivial ?_
          refine WpPi.at 98 (len_map _ _) ?_
          obtain ⟨c_14, h⟩ := Sh.chk_some h
          obtain ⟨c_15, h⟩ := Sh.chk_some h
          refine WpPi.pn 2 rfl c_14 ?_
          refine WpPi.pn 1 rfl (show 0 ≤ ((y_8.length : Int) - r_4) ∧ True ∧ True ∧ (((y_8.length : Int) - r_4)).toNat ≤ (List.map cGTok y_7).length ∧ True from ⟨(by omega), trivial, trivial, (by simp only [List.length_map]; omega), trivial⟩) ?_
          refine WpPi.at 101 (rows_drop 6 cGTok y_7 _) ?_
          refine WpPi.pn 1 rfl trivial ?_
          refine WpPi.at 102 (len_map _ _) ?_
          refine WpPi.pn 1 rfl trivial ?_
          refine WpPi.nil ?_
          refine WpC.blockK (fun x : (List GChoice_CTok) × ((Option (Nat × Nat))) => [(13, (.own (List.map cGChoice_CTok x.1).length x.2))]) (fun x H' => (choice_Merge_j7 a_3) x.1 = some r ∧ Holds H0 [.own 43 7 x.2 (List.map cGChoice_CTok x.1), .many (arP g_1 a_3)] H') ?_ ?_
          ·
            obtain ⟨o_4, ho_4, hk_4⟩ := Sh.bind_some h
            refine WpC.loopS (choice_Merge_b8 r_4 y_7 y_8) (fun (s : Int × List GChoice_CTok) (a : (Option (Nat × Nat))) => [(13, (.own (List.map cGChoice_CTok s.2).length a)), (101, (AV.rows 6 (List.map cGTok (y_7.drop (((y_8.length : Int) - r_4)).toNat)))), (102, (iA ((y_7.drop (((y_8.length : Int) - r_4)).toNat).length : Int))), (103, (iA s.1))]) (fun (s : Int × List GChoice_CTok) (a : (Option (Nat × Nat))) H' => Holds H0 [.own 43 7 a (List.map cGChoice_CTok s.2), .many (arP g_1 a_3)] H') o_4 ((0 : Int), (out_2 ++ middle_2)) p_7 ho_4 ⟨rfl, rfl, rfl, rfl, trivial⟩ hH ?_
            rintro ⟨t103_1, out_3⟩ p_8 st_4 env H' h hd_4 hH
            refine WpC.seqR ?_
            refine WpOps.pn 1 rfl trivial ?_
            refine WpOps.nil ?_
            refine WpC.seq ?_
            refine WpC.condB rfl (fun hb => ?_) (fun hb => ?_)
            ·
              replace h := Sh.ite_pos hb h
              refine WpC.skipD ?_
              refine ⟨_, Heap.le_refl _, ?_⟩
              refine WpC.seq ?_
              refine WpC.block ?_
              refine WpC.seqR ?_
              obtain ⟨y_9, hy_9, h⟩ := Sh.bind_some h
              refine WpOps.consE (v := (.rop (cGTok y_9))) rfl rfl (Exact.ixr cGTok hy_9 rfl rfl rfl rfl (by kernel_rfl) (by decide)) ?_
              refine WpOps.consE (v := (AV.agg (cGTok y_9))) rfl rfl (Exact.load_rop rfl rfl rfl) ?_
              refine WpOps.consG rfl rfl (WpO.allocT (z := cGTok (GTok.mk (0 : Int) ([] : List UInt8) (0 : Int) (0 : Int) (0 : Int) false)) rfl rfl hH fun g_3 H' hH => ?_)
              refine WpOps.consG rfl rfl (WpO.putT (cs' := (cGTok y_9)) (v := (AV.agg (cGTok y_9))) rfl rfl hH (i := 0) rfl rfl rfl rfl rfl rfl rfl fun H' hH => ?_)
              refine WpOps.nil ?_
              refine WpC.regionD ?_
              refine WpOps.pn 1 rfl trivial ?_
              refine WpOps.consE (v := (AV.agg (cGTok y_9))) rfl rfl (Exact.load rfl rfl (hH.cell (i := 0) rfl) rfl rfl) ?_
              refine WpOps.pn 1 rfl trivial ?_
              refine WpOps.consE (v := (AV.rows 7 (List.map cGChoice_CTok ([(GChoice_CTok.mk y_9 (1 : Int))] : List GChoice_CTok)))) rfl rfl (Exact.litSlice rfl (by kernel_rfl)) ?_
              obtain ⟨c_16, h⟩ := Sh.chk_some h
              refine WpOps.consG rfl rfl (WpO.pushT cGChoice_CTok out_3 ([(GChoice_CTok.mk y_9 (1 : Int))] : List GChoice_CTok) (i := 1) rfl ek31 hH rfl rfl rfl (.rows _) (fun y _ => one_cGChoice_CTok y) (by simp) c_16 (by decide) fun p_9 H' hH => ?_)
              refine WpOps.pn 1 rfl trivial ?_
              refine WpOps.nil ?_
              refine ⟨_, Heap.le_refl _, ?_⟩
              refine WpC.regionD ?_
              obtain ⟨c_17, h⟩ := Sh.chk_some h
              refine WpOps.pn 2 rfl c_17 ?_
              refine WpOps.nil ?_
              obtain ⟨_, hle_2, hH⟩ := hH.lose_ (i := 0) rfl
              obtain rfl := Sh.some_inj h
              exact ⟨_, hle_2, ((t103_1 + (1 : Int)), (out_3 ++ ([(GChoice_CTok.mk y_9 (1 : Int))] : List GChoice_CTok))), p_9, rfl, ⟨rfl, rfl, rfl, rfl, trivial⟩, hH⟩
            ·
              replace h := Sh.ite_neg hb h
              obtain rfl := Sh.some_inj h
              have e := hd_4 _ rfl
              subst e
              refine WpC.exit ?_
              exact ⟨(out_3, p_8), ⟨rfl, trivial⟩, hk_4, hH⟩
          ·
            rintro ⟨out_4, p_10⟩ env H' ⟨h, hH⟩
            try dsimp only at h
            refine ⟨_, Heap.le_refl _, ?_⟩
            refine WpC.seqR ?_
            refine WpOps.pn 3 rfl trivial ?_
            refine WpOps.nil ?_
            refine WpC.freeze (t := 4) (i := 0) hH rfl rfl (fun H' hH => ?_)
            obtain rfl := Sh.some_inj h
            refine WpC.ret ?_
            exact VEnds.ret2 rfl rfl rfl ⟨rfl, hH⟩

theorem w_choice_Select {H0 H : Heap} {g_1 : Nat} {a_1 : GArena} {l_1 : List GChoice_CTok} {set_1 : Int} (hH : Holds H0 [.many (arP g_1 a_1)] H) {r : (List GTok) × GArena} (h : choice_Select a_1 l_1 set_1 = some r) : TCall Tryd.prog 13 [(.lit (.pointer (some ⟨g_1, 0, none⟩))), (AV.rows 7 (List.map cGChoice_CTok l_1)), (iA set_1)] H (fun v H' => v = (AV.rows 6 (List.map cGTok r.1)) ∧ Holds H0 [.many (arP g_1 r.2)] H') noE := by
  refine TCall.body Tryd.func13 rfl rfl ?_
  refine WpC.seqR ?_
  refine WpOps.pn 1 rfl trivial ?_
  refine WpOps.nil ?_
  refine WpC.seqR ?_
  refine WpOps.pn 1 rfl trivial ?_
  have hH := hH.nil 40 6
  refine WpOps.nil ?_
  refine WpC.seq ?_
  refine WpC.seqR ?_
  refine WpOps.pn 2 rfl trivial ?_
  refine WpOps.at 13 (len_map _ _) ?_
  refine WpOps.pn 1 rfl trivial ?_
  refine WpOps.nil ?_
  refine WpC.blockK (fun x : (List GTok × GArena) × ((Option (Nat × Nat))) => [(7, (.own (List.map cGTok x.1.1).length x.2))]) (fun x H' => choice_Select_j1 x.1 = some r ∧ Holds H0 [.own 40 6 x.2 (List.map cGTok x.1.1), .many (arP g_1 x.1.2)] H') ?_ ?_
  ·
    obtain ⟨o_1, ho_1, hk_1⟩ := Sh.bind_some h
    refine WpC.loopS (choice_Select_b2 l_1 set_1) (fun (s : Int × List GTok × GArena) (a : (Option (Nat × Nat))) => [(0, (.lit (.pointer (some ⟨g_1, 0, none⟩)))), (2, (iA set_1)), (7, (.own (List.map cGTok s.2.1).length a)), (12, (AV.rows 7 (List.map cGChoice_CTok l_1))), (13, (iA (l_1.length : Int))), (14, (iA s.1))]) (fun (s : Int × List GTok × GArena) (a : (Option (Nat × Nat))) H' => Holds H0 [.own 40 6 a (List.map cGTok s.2.1), .many (arP g_1 s.2.2)] H') o_1 ((0 : Int), ([] : List GTok), a_1) none ho_1 ⟨rfl, rfl, rfl, rfl, rfl, rfl, trivial⟩ hH ?_
    rintro ⟨t14_1, out_1, a_2⟩ p_1 st_1 env H' h hd_1 hH
    refine WpC.seqR ?_
    refine WpOps.pn 1 rfl trivial ?_
    refine WpOps.nil ?_
    refine WpC.seq ?_
    refine WpC.condB rfl (fun hb => ?_) (fun hb => ?_)
    ·
      replace h := Sh.ite_pos hb h
      refine WpC.skipD ?_
      refine ⟨_, Heap.le_refl _, ?_⟩
      refine WpC.seq ?_
      refine WpC.block ?_
      refine WpC.seqR ?_
      obtain ⟨y_1, hy_1, h⟩ := Sh.bind_some h
      refine WpOps.consE (v := (.rop (cGChoice_CTok y_1))) rfl rfl (Exact.ixr cGChoice_CTok hy_1 rfl rfl rfl rfl (by kernel_rfl) (by decide)) ?_
      refine WpOps.consE (v := (AV.agg (cGChoice_CTok y_1))) rfl rfl (Exact.load_rop rfl rfl rfl) ?_
      refine WpOps.consG rfl rfl (WpO.allocT (z := cGChoice_CTok (GChoice_CTok.mk (GTok.mk (0 : Int) ([] : List UInt8) (0 : Int) (0 : Int) (0 : Int) false) (0 : Int))) rfl rfl hH fun g_2 H' hH => ?_)
      refine WpOps.consG rfl rfl (WpO.putT (cs' := (cGChoice_CTok y_1)) (v := (AV.agg (cGChoice_CTok y_1))) rfl rfl hH (i := 0) rfl rfl rfl rfl rfl rfl rfl fun H' hH => ?_)
      refine WpOps.nil ?_
      refine WpC.seqR ?_
      refine WpOps.pn 2 rfl trivial ?_
      refine WpOps.consE (v := (iA y_1.cond)) rfl rfl (Exact.load rfl rfl (hH.cell (i := 0) rfl) rfl rfl) ?_
      obtain ⟨r_1, hr_1, h⟩ := Sh.bind_some h
      refine WpOps.pn 1 rfl trivial ?_
      refine WpOps.consG rfl rfl (WpO.callT (v := (.tup [(bA r_1.1.1), (iA r_1.1.2)])) rfl rfl rfl hH (i := 2) rfl (fun H1 hl hh => w_bdd_Holds hh hr_1) fun H' hH => ?_)
      refine WpOps.pn 5 rfl trivial ?_
      refine WpOps.nil ?_
      refine WpC.seqR ?_
      refine WpOps.pn 1 rfl trivial ?_
      refine WpOps.nil ?_
      refine WpC.condB rfl (fun hb => ?_) (fun hb => ?_)
      ·
        replace h := Sh.ite_pos hb h
        refine WpC.regionD ?_
        refine WpOps.pn 2 rfl trivial ?_
        refine WpOps.consE (v := (AV.agg (cGTok y_1.t))) rfl rfl (Exact.load rfl rfl (hH.cell (i := 0) rfl) rfl rfl) ?_
        refine WpOps.consE (v := (AV.rows 6 (List.map cGTok ([y_1.t] : List GTok)))) rfl rfl (Exact.litSlice rfl (by kernel_rfl)) ?_
        obtain ⟨c_1, h⟩ := Sh.chk_some h
        refine WpOps.consG rfl rfl (WpO.pushT cGTok out_1 ([y_1.t] : List GTok) (i := 1) rfl ek35 hH rfl rfl rfl (.rows _) (fun y _ => one_cGTok y) (by simp) c_1 (by decide) fun p_2 H' hH => ?_)
        refine WpOps.pn 1 rfl trivial ?_
        refine WpOps.nil ?_
        refine ⟨_, Heap.le_refl _, ?_⟩
        refine WpC.regionD ?_
        obtain ⟨c_2, h⟩ := Sh.chk_some h
        refine WpOps.pn 2 rfl c_2 ?_
        refine WpOps.nil ?_
        obtain ⟨_, hle_1, hH⟩ := hH.lose_ (i := 0) rfl
        obtain rfl := Sh.some_inj h
        exact ⟨_, hle_1, ((t14_1 + (1 : Int)), (out_1 ++ ([y_1.t] : List GTok)), r_1.2), p_2, rfl, ⟨rfl, rfl, rfl, rfl, rfl, rfl, trivial⟩, hH⟩
      ·
        replace h := Sh.ite_neg hb h
        refine WpC.skipD ?_
        refine ⟨_, Heap.le_refl _, ?_⟩
        refine WpC.regionD ?_
        obtain ⟨c_3, h⟩ := Sh.chk_some h
        refine WpOps.pn 2 rfl c_3 ?_
        refine WpOps.nil ?_
        obtain ⟨_, hle_2, hH⟩ := hH.lose_ (i := 0) rfl
        obtain rfl := Sh.some_inj h
        exact ⟨_, hle_2, ((t14_1 + (1 : Int)), out_1, r_1.2), p_1, rfl, ⟨rfl, rfl, rfl, rfl, rfl, rfl, trivial⟩, hH⟩
    ·
      replace h := Sh.ite_neg hb h
      obtain rfl := Sh.some_inj h
      have e := hd_1 _ rfl
      subst e
      refine WpC.exit ?_
      exact ⟨((out_1, a_2), p_1), ⟨rfl, trivial⟩, hk_1, hH⟩
  ·
    rintro ⟨⟨out_2, a_3⟩, p_3⟩ env H' ⟨h, hH⟩
    try dsimp only at h
    refine ⟨_, Heap.le_refl _, ?_⟩
    refine WpC.seqR ?_
    refine WpOps.pn 2 rfl trivial ?_
    refine WpOps.nil ?_
    refine WpC.freeze (t := 6) (i := 0) hH rfl rfl (fun H' hH => ?_)
    obtain rfl := Sh.some_inj h
    refine WpC.ret ?_
    exact VEnds.ret1 rfl rfl ⟨rfl, hH⟩

theorem w_emendref03_Same {H0 : Heap} {a_1 : List GTok} {b_1 : List GTok} {r : Bool} (h : emendref03_Same a_1 b_1 = some r) : TCall Tryd.prog 14 [(AV.rows 6 (List.map cGTok a_1)), (AV.rows 6 (List.map cGTok b_1))] H0 (fun v H' => v = (bA r) ∧ H' = H0) noE := by
  refine id (TCall.body Tryd.func14 rfl rfl ?_)
  have hH : Holds H0 [] H0 := rfl
  refine WpC.seqR ?_
  refine WpOps.pn 1 rfl trivial ?_
  refine WpOps.nil ?_
  refine WpC.seq ?_
  refine WpC.seqR ?_
  refine WpOps.pn 2 rfl trivial ?_
  refine WpOps.at 7 (len_map _ _) ?_
  refine WpOps.pn 2 rfl trivial ?_
  refine WpOps.at 9 (len_map _ _) ?_
  refine WpOps.pn 1 rfl trivial ?_
  refine WpOps.nil ?_
  refine WpC.condB rfl (fun hb => ?_) (fun hb => ?_)
  ·
    replace h := Sh.ite_pos hb h
    refine WpC.seqR ?_
    refine WpOps.pn 1 rfl trivial ?_
    refine WpOps.nil ?_
    obtain rfl := Sh.some_inj h
    refine WpC.ret ?_
    exact VEnds.ret1 rfl rfl ⟨rfl, hH⟩
  ·
    replace h := Sh.ite_neg hb h
    refine WpC.skipD ?_
    refine ⟨_, Heap.le_refl _, ?_⟩
    refine WpC.seq ?_
    refine WpC.seqR ?_
    refine WpOps.pn 1 rfl trivial ?_
    refine WpOps.nil ?_
    refine WpC.blockK (fun x : (Unit) × (Unit) => []) (fun x H' => emendref03_Same_j1 x.1 = some r ∧ Holds H0 [] H') ?_ ?_
    ·
      obtain ⟨o_1, ho_1, hk_1⟩ := Sh.bind_some h
      refine WpC.loopS (emendref03_Same_b2 a_1 b_1) (fun (s : Int) (a : Unit) => [(0, (AV.rows 6 (List.map cGTok a_1))), (1, (AV.rows 6 (List.map cGTok b_1))), (5, (iA s))]) (fun (s : Int) (a : Unit) H' => Holds H0 [] H') o_1 (0 : Int) () ho_1 ⟨rfl, rfl, rfl, trivial⟩ hH ?_
      rintro i_1 _ st_1 env H' h hd_1 hH
      refine WpC.seq ?_
      refine WpC.seqR ?_
      refine WpOps.pn 3 rfl trivial ?_
      refine WpOps.at 13 (len_map _ _) ?_
      refine WpOps.pn 1 rfl trivial ?_
      refine WpOps.nil ?_
      refine WpC.condB rfl (fun hb => ?_) (fun hb => ?_)
      ·
        replace h := Sh.ite_pos hb h
        refine WpC.skipD ?_
        refine ⟨_, Heap.le_refl _, ?_⟩
        refine WpC.seq ?_
        refine WpC.block ?_
        refine WpC.seqD [] [0, 1, 2, 3, 4, 5, 6, 7, 8] (by kernel_rfl) (by kernel_rfl) ?_
        obtain ⟨y_1, hy_1, h⟩ := Sh.bind_some h
        refine WpPi.pn 2 rfl trivial ?_
        refine WpPi.consI (v := (.rop (cGTok y_1))) rfl rfl rfl rfl (fun _ => Exact.ixr cGTok hy_1 rfl rfl rfl rfl (by kernel_rfl) (by decide)) ?_
        refine WpPi.consI (v := (AV.agg (cGTok y_1))) rfl rfl rfl rfl (fun _ => Exact.load_rop rfl rfl rfl) ?_
        obtain ⟨y_2, hy_2, h⟩ := Sh.bind_some h
        refine WpPi.pn 2 rfl trivial ?_
        refine WpPi.consI (v := (.rop (cGTok y_2))) rfl rfl rfl rfl (fun _ => Exact.ixr cGTok hy_2 rfl rfl rfl rfl (by kernel_rfl) (by decide)) ?_
        refine WpPi.consI (v := (AV.agg (cGTok y_2))) rfl rfl rfl rfl (fun _ => Exact.load_rop rfl rfl rfl) ?_
        refine WpPi.consI (v := (bA (!decide (y_1 = y_2)))) rfl rfl rfl rfl (fun _ => Exact.neqStruct rfl rfl rfl (eqL_GTok y_1 y_2) (by kernel_rfl) rfl (by kernel_rfl)) ?_
        refine WpPi.nil ?_
        refine WpC.condB rfl (fun hb => ?_) (fun hb => ?_)
        ·
          replace h := Sh.ite_pos hb h
          refine WpC.seqR ?_
          refine WpOps.pn 1 rfl trivial ?_
          refine WpOps.nil ?_
          obtain rfl := Sh.some_inj h
          have e := hd_1 _ rfl
          subst e
          have h := hk_1
          obtain rfl := Sh.some_inj h
          refine WpC.ret ?_
          exact VEnds.ret1 rfl rfl ⟨rfl, hH⟩
        ·
          replace h := Sh.ite_neg hb h
          refine WpC.skipD ?_
          refine ⟨_, Heap.le_refl _, ?_⟩
          refine WpC.regionD ?_
          obtain ⟨c_1, h⟩ := Sh.chk_some h
          refine WpOps.pn 3 rfl c_1 ?_
          refine WpOps.nil ?_
          obtain rfl := Sh.some_inj h
          exact ⟨_, (Heap.le_refl _), (i_1 + (1 : Int)), (), rfl, ⟨rfl, rfl, rfl, trivial⟩, hH⟩
      ·
        replace h := Sh.ite_neg hb h
        obtain rfl := Sh.some_inj h
        have e := hd_1 _ rfl
        subst e
        refine WpC.exit ?_
        exact ⟨((), ()), trivial, hk_1, hH⟩
    ·
      rintro ⟨_, _⟩ env H' ⟨h, hH⟩
      try dsimp only at h
      refine ⟨_, Heap.le_refl _, ?_⟩
      refine WpC.seqR ?_
      refine WpOps.pn 1 rfl trivial ?_
      refine WpOps.nil ?_
      obtain rfl := Sh.some_inj h
      refine WpC.ret ?_
      exact VEnds.ret1 rfl rfl ⟨rfl, hH⟩

theorem w_emendlaw13_awake {H0 : Heap} (hG : Glob H0)  {r : Bool} (h : emendlaw13_awake  = some r) : TCall Tryd.prog 8 [] H0 (fun v H' => v = (bA r) ∧ H' = H0) noE := by
  refine id (TCall.body Tryd.func8 rfl rfl ?_)
  have hH : Holds H0 [] H0 := rfl
  refine WpC.seqR ?_
  refine WpOps.pn 1 rfl trivial ?_
  refine WpOps.nil ?_
  refine WpC.seqR ?_
  obtain ⟨c_1, h⟩ := Sh.chk_some h
  refine WpOps.consG rfl rfl (WpO.callM (F := fun g => .tup [.lit (.pointer (some ⟨g, 0, none⟩)), iA (0 : Int)]) (p := fun g => arP g (newG ((1 : Int)).toNat)) rfl rfl rfl hH (w_bdd_New c_1) fun g_1 H' hH => ?_)
  refine WpOps.pn 5 rfl trivial ?_
  refine WpOps.nil ?_
  refine WpC.seq ?_
  refine WpC.seqR ?_
  refine WpOps.pn 2 rfl trivial ?_
  refine WpOps.nil ?_
  refine WpC.condF rfl ?_
  refine WpC.skipD ?_
  refine ⟨_, Heap.le_refl _, ?_⟩
  refine WpC.seqR ?_
  refine WpOps.consE (v := (AV.rows 1 (List.map cS ([([97, 32, 98, 32, 99] : List UInt8), ([97, 32, 120, 32, 99] : List UInt8)] : List (List UInt8))))) rfl rfl (Exact.litSlice rfl (by kernel_rfl)) ?_
  obtain ⟨r_1, hr_1, h⟩ := Sh.bind_some h
  refine WpOps.consE (v := (.tup [(AV.rows 1 (List.map (cL 6 cGTok) r_1.1)), (bA r_1.2)])) rfl rfl (Exact.call rfl rfl rfl (w_emendlaw13_lists (hG.up hH) hr_1)) ?_
  refine WpOps.pn 5 rfl trivial ?_
  refine WpOps.nil ?_
  refine WpC.seqR ?_
  obtain ⟨r_2, hr_2, h⟩ := Sh.bind_some h
  refine WpOps.pn 2 rfl trivial ?_
  refine WpOps.consG rfl rfl (WpO.callT (v := (.tup [(AV.rows 7 (List.map cGChoice_CTok r_2.1.1)), (iA r_2.1.2)])) rfl rfl rfl hH (i := 0) rfl (fun H1 hl hh => w_choice_Merge hh hr_2) fun H' hH => ?_)
  refine WpOps.pn 5 rfl trivial ?_
  refine WpOps.nil ?_
  refine WpC.seqR ?_
  obtain ⟨c_2, h⟩ := Sh.chk_some h
  refine WpOps.pn 2 rfl trivial ?_
  refine WpOps.pn 1 rfl (show True ∧ 0 ≤ (1 : Int) ∧ True ∧ ((1 : Int)).toNat ≤ (List.map (cL 6 cGTok) r_1.1).length ∧ True from ⟨trivial, (by omega), trivial, (by simp only [List.length_map]; omega), trivial⟩) ?_
  refine WpOps.at 30 (rows_take 1 (cL 6 cGTok) r_1.1 _) ?_
  obtain ⟨r_3, hr_3, h⟩ := Sh.bind_some h
  refine WpOps.consG rfl rfl (WpO.callT (v := (.tup [(AV.rows 7 (List.map cGChoice_CTok r_3.1.1)), (iA r_3.1.2)])) rfl rfl rfl hH (i := 0) rfl (fun H1 hl hh => w_choice_Merge hh hr_3) fun H' hH => ?_)
  refine WpOps.pn 5 rfl trivial ?_
  refine WpOps.nil ?_
  refine WpC.seq ?_
  refine WpC.seqR ?_
  refine WpOps.pn 2 rfl trivial ?_
  obtain ⟨b_1, g_2, h⟩ := Sh.bind_some h
  refine WpOps.cutB 5 40 (bA b_1) rfl ?_ ?_
  ·
    refine WpOps.pn 1 rfl trivial ?_
    refine WpOps.split 36 rfl (fun hb => ?_) (fun hb => ?_)
    ·
      replace g_2 := Sh.ite_pos hb g_2
      refine WpOps.pn 4 rfl trivial ?_
      refine WpOps.nil ?_
      obtain rfl := Sh.some_inj g_2
      exact ⟨rfl, rfl⟩
    ·
      replace g_2 := Sh.ite_neg hb g_2
      refine WpOps.pn 2 rfl trivial ?_
      refine WpOps.at 38 (len_map _ _) ?_
      refine WpOps.pn 2 rfl trivial ?_
      refine WpOps.nil ?_
      obtain rfl := Sh.some_inj g_2
      exact ⟨rfl, rfl⟩
  intro env
  refine WpOps.nil ?_
  refine WpC.condB rfl (fun hb => ?_) (fun hb => ?_)
  ·
    replace h := Sh.ite_pos hb h
    refine WpC.seqR ?_
    refine WpOps.pn 1 rfl trivial ?_
    refine WpOps.nil ?_
    refine WpC.lose (i := 0) hH rfl (fun H' hH => ?_)
    obtain rfl := Sh.some_inj h
    refine WpC.ret ?_
    exact VEnds.ret1 rfl rfl ⟨rfl, hH⟩
  ·
    replace h := Sh.ite_neg hb h
    refine WpC.skipD ?_
    refine ⟨_, Heap.le_refl _, ?_⟩
    refine WpC.seqR ?_
    obtain ⟨r_4, hr_4, h⟩ := Sh.bind_some h
    refine WpOps.pn 2 rfl trivial ?_
    refine WpOps.consG rfl rfl (WpO.callT (v := (AV.rows 6 (List.map cGTok r_4.1))) rfl rfl rfl hH (i := 0) rfl (fun H1 hl hh => w_choice_Select hh hr_4) fun H' hH => ?_)
    refine WpOps.pn 1 rfl trivial ?_
    refine WpOps.nil ?_
    refine WpC.seqR ?_
    refine WpOps.pn 2 rfl trivial ?_
    obtain ⟨b_2, g_3, h⟩ := Sh.bind_some h
    refine WpOps.cutB 8 53 (bA b_2) rfl ?_ ?_
    ·
      refine WpOps.pn 1 rfl trivial ?_
      refine WpOps.split 46 rfl (fun hb => ?_) (fun hb => ?_)
      ·
        replace g_3 := Sh.ite_pos hb g_3
        obtain ⟨y_1, hy_1, g_3⟩ := Sh.bind_some g_3
        refine WpOps.pn 1 rfl trivial ?_
        refine WpOps.consE (v := (.rop (cGChoice_CTok y_1))) rfl rfl (Exact.ixr cGChoice_CTok hy_1 rfl rfl rfl rfl (by kernel_rfl) (by decide)) ?_
        refine WpOps.pn 2 rfl trivial ?_
        refine WpOps.consE (v := (sA y_1.t.text)) rfl rfl (Exact.load_rop rfl rfl rfl) ?_
        refine WpOps.pn 2 rfl trivial ?_
        refine WpOps.nil ?_
        obtain rfl := Sh.some_inj g_3
        exact ⟨rfl, rfl⟩
      ·
        replace g_3 := Sh.ite_neg hb g_3
        refine WpOps.pn 7 rfl trivial ?_
        refine WpOps.nil ?_
        obtain rfl := Sh.some_inj g_3
        exact ⟨rfl, rfl⟩
    intro env
    obtain ⟨b_3, g_4, h⟩ := Sh.bind_some h
    refine WpOps.cutB 7 60 (bA b_3) rfl ?_ ?_
    ·
      refine WpOps.pn 1 rfl trivial ?_
      refine WpOps.split 54 rfl (fun hb => ?_) (fun hb => ?_)
      ·
        replace g_4 := Sh.ite_pos hb g_4
        obtain ⟨y_2, hy_2, g_4⟩ := Sh.bind_some g_4
        refine WpOps.pn 1 rfl trivial ?_
        refine WpOps.consE (v := (.rop (cGChoice_CTok y_2))) rfl rfl (Exact.ixr cGChoice_CTok hy_2 rfl rfl rfl rfl (by kernel_rfl) (by decide)) ?_
        refine WpOps.pn 1 rfl trivial ?_
        refine WpOps.consE (v := (iA y_2.cond)) rfl rfl (Exact.load_rop rfl rfl rfl) ?_
        refine WpOps.pn 2 rfl trivial ?_
        refine WpOps.nil ?_
        obtain rfl := Sh.some_inj g_4
        exact ⟨rfl, rfl⟩
      ·
        replace g_4 := Sh.ite_neg hb g_4
        refine WpOps.pn 6 rfl trivial ?_
        refine WpOps.nil ?_
        obtain rfl := Sh.some_inj g_4
        exact ⟨rfl, rfl⟩
    intro env
    obtain ⟨b_4, g_5, h⟩ := Sh.bind_some h
    refine WpOps.cutB 8 68 (bA b_4) rfl ?_ ?_
    ·
      refine WpOps.pn 1 rfl trivial ?_
      refine WpOps.split 61 rfl (fun hb => ?_) (fun hb => ?_)
      ·
        replace g_5 := Sh.ite_pos hb g_5
        obtain ⟨y_3, hy_3, g_5⟩ := Sh.bind_some g_5
        refine WpOps.pn 1 rfl trivial ?_
        refine WpOps.consE (v := (.rop (cGChoice_CTok y_3))) rfl rfl (Exact.ixr cGChoice_CTok hy_3 rfl rfl rfl rfl (by kernel_rfl) (by decide)) ?_
        refine WpOps.pn 2 rfl trivial ?_
        refine WpOps.consE (v := (sA y_3.t.text)) rfl rfl (Exact.load_rop rfl rfl rfl) ?_
        refine WpOps.pn 2 rfl trivial ?_
        refine WpOps.nil ?_
        obtain rfl := Sh.some_inj g_5
        exact ⟨rfl, rfl⟩
      ·
        replace g_5 := Sh.ite_neg hb g_5
        refine WpOps.pn 7 rfl trivial ?_
        refine WpOps.nil ?_
        obtain rfl := Sh.some_inj g_5
        exact ⟨rfl, rfl⟩
    intro env
    obtain ⟨b_5, g_6, h⟩ := Sh.bind_some h
    refine WpOps.cutB 7 75 (bA b_5) rfl ?_ ?_
    ·
      refine WpOps.pn 1 rfl trivial ?_
      refine WpOps.split 69 rfl (fun hb => ?_) (fun hb => ?_)
      ·
        replace g_6 := Sh.ite_pos hb g_6
        obtain ⟨y_4, hy_4, g_6⟩ := Sh.bind_some g_6
        refine WpOps.pn 1 rfl trivial ?_
        refine WpOps.consE (v := (.rop (cGChoice_CTok y_4))) rfl rfl (Exact.ixr cGChoice_CTok hy_4 rfl rfl rfl rfl (by kernel_rfl) (by decide)) ?_
        refine WpOps.pn 1 rfl trivial ?_
        refine WpOps.consE (v := (iA y_4.cond)) rfl rfl (Exact.load_rop rfl rfl rfl) ?_
        refine WpOps.pn 2 rfl trivial ?_
        refine WpOps.nil ?_
        obtain rfl := Sh.some_inj g_6
        exact ⟨rfl, rfl⟩
      ·
        replace g_6 := Sh.ite_neg hb g_6
        refine WpOps.pn 6 rfl trivial ?_
        refine WpOps.nil ?_
        obtain rfl := Sh.some_inj g_6
        exact ⟨rfl, rfl⟩
    intro env
    obtain ⟨b_6, g_7, h⟩ := Sh.bind_some h
    refine WpOps.cutB 7 82 (bA b_6) rfl ?_ ?_
    ·
      refine WpOps.pn 1 rfl trivial ?_
      refine WpOps.split 76 rfl (fun hb => ?_) (fun hb => ?_)
      ·
        replace g_7 := Sh.ite_pos hb g_7
        obtain ⟨y_5, hy_5, g_7⟩ := Sh.bind_some g_7
        refine WpOps.pn 2 rfl trivial ?_
        refine WpOps.consE (v := (.rop ((cL 6 cGTok) y_5))) rfl rfl (Exact.ixr (cL 6 cGTok) hy_5 rfl rfl rfl rfl (by kernel_rfl) (by decide)) ?_
        refine WpOps.consE (v := (AV.rows 6 (List.map cGTok y_5))) rfl rfl (Exact.load_rop rfl rfl rfl) ?_
        obtain ⟨r_5, hr_5, g_7⟩ := Sh.bind_some g_7
        refine WpOps.consE (v := (bA r_5)) rfl rfl (Exact.call rfl rfl rfl (w_emendref03_Same hr_5)) ?_
        refine WpOps.pn 1 rfl trivial ?_
        refine WpOps.nil ?_
        obtain rfl := Sh.some_inj g_7
        exact ⟨rfl, rfl⟩
      ·
        replace g_7 := Sh.ite_neg hb g_7
        refine WpOps.pn 6 rfl trivial ?_
        refine WpOps.nil ?_
        obtain rfl := Sh.some_inj g_7
        exact ⟨rfl, rfl⟩
    intro env
    refine WpOps.pn 1 rfl trivial ?_
    refine WpOps.nil ?_
    refine WpC.lose (i := 0) hH rfl (fun H' hH => ?_)
    obtain rfl := Sh.some_inj h
    refine WpC.ret ?_
    exact VEnds.ret1 rfl rfl ⟨rfl, hH⟩

theorem w_emendref13_All {H0 : Heap} {lists_1 : List (List GTok)} {r : Int} (h : emendref13_All lists_1 = some r) : TCall Tryd.prog 12 [(AV.rows 1 (List.map (cL 6 cGTok) lists_1))] H0 (fun v H' => v = (iA r) ∧ H' = H0) noE := by
  refine id (TCall.body Tryd.func12 rfl rfl ?_)
  have hH : Holds H0 [] H0 := rfl
  refine WpC.seqR ?_
  refine WpOps.pn 1 rfl trivial ?_
  refine WpOps.nil ?_
  refine WpC.seqR ?_
  refine WpOps.pn 1 rfl trivial ?_
  refine WpOps.nil ?_
  refine WpC.seq ?_
  refine WpC.seqR ?_
  refine WpOps.pn 1 rfl trivial ?_
  refine WpOps.nil ?_
  refine WpC.blockK (fun x : (Int) × (Unit) => [(3, (iA x.1))]) (fun x H' => emendref13_All_j1 x.1 = some r ∧ Holds H0 [] H') ?_ ?_
  ·
    obtain ⟨o_1, ho_1, hk_1⟩ := Sh.bind_some h
    refine WpC.loopS (emendref13_All_b2 lists_1) (fun (s : Int × Int) (a : Unit) => [(0, (AV.rows 1 (List.map (cL 6 cGTok) lists_1))), (3, (iA s.1)), (4, (iA s.2))]) (fun (s : Int × Int) (a : Unit) H' => Holds H0 [] H') o_1 ((0 : Int), (0 : Int)) () ho_1 ⟨rfl, rfl, rfl, trivial⟩ hH ?_
    rintro ⟨n_1, i_1⟩ _ st_1 env H' h hd_1 hH
    refine WpC.seq ?_
    refine WpC.seqR ?_
    refine WpOps.pn 3 rfl trivial ?_
    refine WpOps.at 7 (len_map _ _) ?_
    refine WpOps.pn 1 rfl trivial ?_
    refine WpOps.nil ?_
    refine WpC.condB rfl (fun hb => ?_) (fun hb => ?_)
    ·
      replace h := Sh.ite_pos hb h
      refine WpC.skipD ?_
      refine ⟨_, Heap.le_refl _, ?_⟩
      refine WpC.seq ?_
      refine WpC.block ?_
      refine WpC.regionD ?_
      obtain ⟨y_1, hy_1, h⟩ := Sh.bind_some h
      refine WpOps.pn 3 rfl trivial ?_
      refine WpOps.consE (v := (.rop ((cL 6 cGTok) y_1))) rfl rfl (Exact.ixr (cL 6 cGTok) hy_1 rfl rfl rfl rfl (by kernel_rfl) (by decide)) ?_
      refine WpOps.consE (v := (AV.rows 6 (List.map cGTok y_1))) rfl rfl (Exact.load_rop rfl rfl rfl) ?_
      refine WpOps.pn 1 rfl trivial ?_
      refine WpOps.at 16 (len_map _ _) ?_
      obtain ⟨c_1, h⟩ := Sh.chk_some h
      refine WpOps.pn 2 rfl c_1 ?_
      refine WpOps.nil ?_
      refine ⟨_, Heap.le_refl _, ?_⟩
      refine WpC.regionD ?_
      obtain ⟨c_2, h⟩ := Sh.chk_some h
      refine WpOps.pn 3 rfl c_2 ?_
      refine WpOps.nil ?_
      obtain rfl := Sh.some_inj h
      exact ⟨_, (Heap.le_refl _), ((n_1 + (y_1.length : Int)), (i_1 + (1 : Int))), (), rfl, ⟨rfl, rfl, rfl, trivial⟩, hH⟩
    ·
      replace h := Sh.ite_neg hb h
      obtain rfl := Sh.some_inj h
      have e := hd_1 _ rfl
      subst e
      refine WpC.exit ?_
      exact ⟨(n_1, ()), ⟨rfl, trivial⟩, hk_1, hH⟩
  ·
    rintro ⟨n_2, _⟩ env H' ⟨h, hH⟩
    try dsimp only at h
    refine ⟨_, Heap.le_refl _, ?_⟩
    refine WpC.seqR ?_
    refine WpOps.pn 2 rfl trivial ?_
    refine WpOps.nil ?_
    obtain rfl := Sh.some_inj h
    refine WpC.ret ?_
    exact VEnds.ret1 rfl rfl ⟨rfl, hH⟩
end Go.Proofs.YtffgaoehhmgbjaaDoor
