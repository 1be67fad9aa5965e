/-
  Part of the proof of If.
-/
import Derived.Test.YtgmpeddopfnioaaGreatDoorQiSox
import Derived.Test.YtgmpeddopfnioaaGreatDoorQiTyzx
import Derived.Test.YtgmpeddopfnioaaGreatDoorChecked
import Derived.Test.YtgmpeddopfnioaaGreatDoorQiLi
import Derived.Test.YtgmpeddopfnioaaGreatDoorQiChx
import Derived.Test.YtgmpeddopfnioaaGreatDoorQiTvx
import Derived.Test.YtgmpeddopfnioaaGreatDoorQiBu
import Derived.Test.YtgmpeddopfnioaaGreatDoorQiMmx
import Derived.Test.YtgmpeddopfnioaaGreatDoorQiMox
import Derived.Test.YtgmpeddopfnioaaGreatDoorQiTk
import Derived.Test.YtgmpeddopfnioaaGreatDoorQiRp
import Derived.Test.YtgmpeddopfnioaaGreatDoorQiEa

set_option linter.unusedVariables false
set_option linter.unusedSimpArgs false
set_option maxRecDepth 20000
set_option maxHeartbeats 8000000
namespace Go.Proofs.YtgmpeddopfnioaaGreatDoor
open Go Go.Vc Go.Sh
attribute [local irreducible] WpC WpOps WpPi WpPj WpO Exact TCall VEnds Sh.loopS DEnds
theorem ek23 : ElemOk Tryz.prog 23 9 1 16 := vV (by kernel_rfl)
theorem ek37 : ElemOk Tryz.prog 37 50 6 56 := vV (by kernel_rfl)
theorem ek54 : ElemOk Tryz.prog 54 57 4 48 := vV (by kernel_rfl)
theorem ek78 : ElemOk Tryz.prog 78 87 2 16 := vV (by kernel_rfl)
theorem ek228 : ElemOk Tryz.prog 228 255 9 88 := vV (by kernel_rfl)
def eBM (x : Int × GMacro) : List AV := [iA x.1, .agg (cGMacro x.2)]
theorem backM_map (l : List GMacro) : (backP l).map eBM = backLM l := by unfold backP backLM; rw [List.map_map]; rfl
theorem bld_143 : ∀ (x0 : GVal) (x1 : GVal) (x2 : GVal), bldA Tryz.prog 143 [(0, (valA x0)), (1, (valA x1)), (2, (valA x2))] = some [(valA x0), (valA x1), (valA x2)] := by intro x0 x1 x2; cases x0 <;> cases x1 <;> cases x2 <;> rfl
theorem bld_194 : ∀ (x0 : List UInt8) (x1 : GVal) (x2 : GVal), bldA Tryz.prog 194 [(0, (sA x0)), (1, (valA x1)), (2, (valA x2))] = some [(sA x0), (valA x1), (valA x2)] := by intro x0 x1 x2; cases x1 <;> cases x2 <;> rfl
theorem bld_210 : ∀ (x0 : List UInt8) (x1 : GVal), bldA Tryz.prog 210 [(0, (sA x0)), (1, (valA x1))] = some [(sA x0), (valA x1)] := by intro x0 x1; cases x1 <;> rfl
theorem cells_cGIfexpr_unary : ∀ (x : GIfexpr_unary), cellsA (.agg (cGIfexpr_unary x)) = cGIfexpr_unary x := by rintro ⟨⟩; rename_i a0 a1; cases a1 <;>  rfl
theorem cells_cGIfexpr_binary : ∀ (x : GIfexpr_binary), cellsA (.agg (cGIfexpr_binary x)) = cGIfexpr_binary x := by rintro ⟨⟩; rename_i a0 a1 a2; cases a1 <;> cases a2 <;>  rfl
theorem cells_cGIfexpr_choice : ∀ (x : GIfexpr_choice), cellsA (.agg (cGIfexpr_choice x)) = cGIfexpr_choice x := by rintro ⟨⟩; rename_i a0 a1 a2; cases a0 <;> cases a1 <;> cases a2 <;>  rfl
theorem w_ifexpr_truth {H0 : Heap} {b_1 : Bool} {r : Int} (h : ifexpr_truth b_1 = some r) : TCall Tryz.prog 253 [(bA b_1)] H0 (fun v H' => v = (iA r) ∧ H' = H0) noE := by
 refine id (TCall.body Tryz.func253 rfl rfl ?_)
 have hH : Holds H0 [] H0 := rfl
 refine uC ?_
 refine uA 1 rfl trivial ?_
 refine WpOps.nil ?_
 refine WpC.seq ?_
 refine uC ?_
 refine uA 1 rfl trivial ?_
 refine WpOps.nil ?_
 refine uF rfl (fun hb => ?_) (fun hb => ?_)
 ·
  replace h := Sh.ite_pos hb h
  refine uC ?_
  refine uA 1 rfl trivial ?_
  refine WpOps.nil ?_
  obtain rfl := Sh.some_inj h
  refine WpC.ret ?_
  exact uH rfl rfl ⟨rfl, hH⟩
 ·
  replace h := Sh.ite_neg hb h
  refine uI ?_
  refine ⟨_, uD _, ?_⟩
  refine uC ?_
  refine uA 1 rfl trivial ?_
  refine WpOps.nil ?_
  obtain rfl := Sh.some_inj h
  refine WpC.ret ?_
  exact uH rfl rfl ⟨rfl, hH⟩
theorem w_ifexpr_plain {H0 : Heap} {sign_1 : List UInt8} {n_1 : Int} {m_1 : Int} {r : Int} (h : ifexpr_plain sign_1 n_1 m_1 = some r) : TCall Tryz.prog 254 [(sA sign_1), (iA n_1), (iA m_1)] H0 (fun v H' => v = (iA r) ∧ H' = H0) noE := by
 refine id (TCall.body Tryz.func254 rfl rfl ?_)
 have hH : Holds H0 [] H0 := rfl
 refine uC ?_
 refine uA 1 rfl trivial ?_
 refine WpOps.nil ?_
 refine WpC.seq ?_
 refine uC ?_
 refine uA 1 rfl trivial ?_
 refine WpOps.nil ?_
 refine WpC.block ?_
 refine uC ?_
 refine uA 2 rfl trivial ?_
 refine WpOps.nil ?_
 refine uF rfl (fun hb => ?_) (fun hb => ?_)
 ·
  replace h := Sh.ite_pos hb h
  refine uC ?_
  refine uA 4 rfl trivial ?_
  refine WpOps.nil ?_
  obtain rfl := Sh.some_inj h
  refine WpC.ret ?_
  exact uH rfl rfl ⟨rfl, hH⟩
 ·
  replace h := Sh.ite_neg hb h
  refine uC ?_
  refine uA 2 rfl trivial ?_
  refine WpOps.nil ?_
  refine uF rfl (fun hb => ?_) (fun hb => ?_)
  ·
   replace h := Sh.ite_pos hb h
   refine uC ?_
   refine uA 4 rfl trivial ?_
   refine WpOps.nil ?_
   obtain rfl := Sh.some_inj h
   refine WpC.ret ?_
   exact uH rfl rfl ⟨rfl, hH⟩
  ·
   replace h := Sh.ite_neg hb h
   refine uC ?_
   refine uA 2 rfl trivial ?_
   refine WpOps.nil ?_
   refine uF rfl (fun hb => ?_) (fun hb => ?_)
   ·
    replace h := Sh.ite_pos hb h
    refine uC ?_
    refine uA 4 rfl trivial ?_
    refine WpOps.nil ?_
    obtain rfl := Sh.some_inj h
    refine WpC.ret ?_
    exact uH rfl rfl ⟨rfl, hH⟩
   ·
    replace h := Sh.ite_neg hb h
    refine uC ?_
    refine uA 2 rfl trivial ?_
    refine WpOps.nil ?_
    refine uF rfl (fun hb => ?_) (fun hb => ?_)
    ·
     replace h := Sh.ite_pos hb h
     refine uC ?_
     refine uA 2 rfl trivial ?_
     refine uB (v := (iA (Sh.wadd n_1 m_1))) rfl rfl (Exact.addW rfl rfl rfl) ?_
     refine uA 1 rfl trivial ?_
     refine WpOps.nil ?_
     obtain rfl := Sh.some_inj h
     refine WpC.ret ?_
     exact uH rfl rfl ⟨rfl, hH⟩
    ·
     replace h := Sh.ite_neg hb h
     refine uC ?_
     refine uA 2 rfl trivial ?_
     refine WpOps.nil ?_
     refine uF rfl (fun hb => ?_) (fun hb => ?_)
     ·
      replace h := Sh.ite_pos hb h
      refine uC ?_
      refine uA 2 rfl trivial ?_
      refine uB (v := (iA (Sh.wsub n_1 m_1))) rfl rfl (Exact.subW rfl rfl rfl) ?_
      refine uA 1 rfl trivial ?_
      refine WpOps.nil ?_
      obtain rfl := Sh.some_inj h
      refine WpC.ret ?_
      exact uH rfl rfl ⟨rfl, hH⟩
     ·
      replace h := Sh.ite_neg hb h
      refine uC ?_
      refine uA 2 rfl trivial ?_
      refine WpOps.nil ?_
      refine uF rfl (fun hb => ?_) (fun hb => ?_)
      ·
       replace h := Sh.ite_pos hb h
       refine uC ?_
       refine uA 2 rfl trivial ?_
       refine uB (v := (iA (Sh.wmul n_1 m_1))) rfl rfl (Exact.mulW rfl rfl rfl) ?_
       refine uA 1 rfl trivial ?_
       refine WpOps.nil ?_
       obtain rfl := Sh.some_inj h
       refine WpC.ret ?_
       exact uH rfl rfl ⟨rfl, hH⟩
      ·
       replace h := Sh.ite_neg hb h
       refine uC ?_
       refine uA 2 rfl trivial ?_
       refine WpOps.nil ?_
       refine uF rfl (fun hb => ?_) (fun hb => ?_)
       ·
        replace h := Sh.ite_pos hb h
        refine uC ?_
        obtain ⟨r_1, hr_1, h⟩ := Sh.bind_some h
        refine uA 3 rfl trivial ?_
        refine uB (v := (iA r_1)) rfl rfl (Exact.call rfl rfl rfl (w_ifexpr_truth hr_1)) ?_
        refine uA 1 rfl trivial ?_
        refine WpOps.nil ?_
        obtain rfl := Sh.some_inj h
        refine WpC.ret ?_
        exact uH rfl rfl ⟨rfl, hH⟩
       ·
        replace h := Sh.ite_neg hb h
        refine uC ?_
        refine uA 2 rfl trivial ?_
        refine WpOps.nil ?_
        refine uF rfl (fun hb => ?_) (fun hb => ?_)
        ·
         replace h := Sh.ite_pos hb h
         refine uC ?_
         obtain ⟨r_2, hr_2, h⟩ := Sh.bind_some h
         refine uA 3 rfl trivial ?_
         refine uB (v := (iA r_2)) rfl rfl (Exact.call rfl rfl rfl (w_ifexpr_truth hr_2)) ?_
         refine uA 1 rfl trivial ?_
         refine WpOps.nil ?_
         obtain rfl := Sh.some_inj h
         refine WpC.ret ?_
         exact uH rfl rfl ⟨rfl, hH⟩
        ·
         replace h := Sh.ite_neg hb h
         refine uC ?_
         refine uA 2 rfl trivial ?_
         refine WpOps.nil ?_
         refine uF rfl (fun hb => ?_) (fun hb => ?_)
         ·
          replace h := Sh.ite_pos hb h
          refine uC ?_
          obtain ⟨r_3, hr_3, h⟩ := Sh.bind_some h
          refine uA 3 rfl trivial ?_
          refine uB (v := (iA r_3)) rfl rfl (Exact.call rfl rfl rfl (w_ifexpr_truth hr_3)) ?_
          refine uA 1 rfl trivial ?_
          refine WpOps.nil ?_
          obtain rfl := Sh.some_inj h
          refine WpC.ret ?_
          exact uH rfl rfl ⟨rfl, hH⟩
         ·
          replace h := Sh.ite_neg hb h
          refine uC ?_
          refine uA 2 rfl trivial ?_
          refine WpOps.nil ?_
          refine uF rfl (fun hb => ?_) (fun hb => ?_)
          ·
           replace h := Sh.ite_pos hb h
           refine uC ?_
           obtain ⟨r_4, hr_4, h⟩ := Sh.bind_some h
           refine uA 3 rfl trivial ?_
           refine uB (v := (iA r_4)) rfl rfl (Exact.call rfl rfl rfl (w_ifexpr_truth hr_4)) ?_
           refine uA 1 rfl trivial ?_
           refine WpOps.nil ?_
           obtain rfl := Sh.some_inj h
           refine WpC.ret ?_
           exact uH rfl rfl ⟨rfl, hH⟩
          ·
           replace h := Sh.ite_neg hb h
           refine uC ?_
           refine uA 2 rfl trivial ?_
           refine WpOps.nil ?_
           refine uF rfl (fun hb => ?_) (fun hb => ?_)
           ·
            replace h := Sh.ite_pos hb h
            refine uC ?_
            obtain ⟨r_5, hr_5, h⟩ := Sh.bind_some h
            refine uA 3 rfl trivial ?_
            refine uB (v := (iA r_5)) rfl rfl (Exact.call rfl rfl rfl (w_ifexpr_truth hr_5)) ?_
            refine uA 1 rfl trivial ?_
            refine WpOps.nil ?_
            obtain rfl := Sh.some_inj h
            refine WpC.ret ?_
            exact uH rfl rfl ⟨rfl, hH⟩
           ·
            replace h := Sh.ite_neg hb h
            refine uI ?_
            refine ⟨_, uD _, ?_⟩
            refine uC ?_
            obtain ⟨r_6, hr_6, h⟩ := Sh.bind_some h
            refine uA 3 rfl trivial ?_
            refine uB (v := (iA r_6)) rfl rfl (Exact.call rfl rfl rfl (w_ifexpr_truth hr_6)) ?_
            refine uA 1 rfl trivial ?_
            refine WpOps.nil ?_
            obtain rfl := Sh.some_inj h
            refine WpC.ret ?_
            exact uH rfl rfl ⟨rfl, hH⟩
theorem w_ifexpr_both {H0 : Heap} {sign_1 : List UInt8} {n_1 : Int} {m_1 : Int} {r : Int × Int} (h : ifexpr_both sign_1 n_1 m_1 = some r) : TCall Tryz.prog 252 [(sA sign_1), (iA n_1), (iA m_1)] H0 (fun v H' => v = (.tup [(iA r.1), (iA r.2)]) ∧ H' = H0) noE := by
 refine id (TCall.body Tryz.func252 rfl rfl ?_)
 have hH : Holds H0 [] H0 := rfl
 refine uC ?_
 refine uA 2 rfl trivial ?_
 refine WpOps.nil ?_
 refine vG (fun x : (Unit) × (Unit) => [(0, (sA sign_1)), (1, (iA n_1)), (2, (iA m_1))]) (fun x H' => (ifexpr_both_j1 sign_1 n_1 m_1) x.1 = some r ∧ Holds H0 [] H') ?_ ?_
 ·
  refine uC ?_
  refine uA 1 rfl trivial ?_
  refine WpOps.nil ?_
  refine WpC.block ?_
  refine vG (fun x : (Bool) × (Unit) => [(0, (sA sign_1)), (1, (iA n_1)), (2, (iA m_1)), (8, (sA sign_1)), (9, (bA x.1))]) (fun x H' => (ifexpr_both_j2 sign_1 n_1 m_1) x.1 = some r ∧ Holds H0 [] H') ?_ ?_
  ·
   refine uC ?_
   refine uA 2 rfl trivial ?_
   refine WpOps.nil ?_
   refine uF rfl (fun hb => ?_) (fun hb => ?_)
   ·
    replace h := Sh.ite_pos hb h
    refine uI ?_
    exact ⟨_, (uD _), ((decide (sign_1 = ([47] : List UInt8))), ()), ⟨rfl, rfl, rfl, rfl, rfl, trivial⟩, h, hH⟩
   ·
    replace h := Sh.ite_neg hb h
    refine uJ ?_
    refine uA 2 rfl trivial ?_
    refine WpOps.nil ?_
    exact ⟨_, (uD _), ((decide (sign_1 = ([37] : List UInt8))), ()), ⟨rfl, rfl, rfl, rfl, rfl, trivial⟩, h, hH⟩
  ·
   rintro ⟨t9_1, _⟩ env H' ⟨h, hH⟩
   try dsimp only at h
   refine uF rfl (fun hb => ?_) (fun hb => ?_)
   ·
    replace h := Sh.ite_pos hb h
    refine WpC.seq ?_
    refine uC ?_
    refine uA 2 rfl trivial ?_
    refine WpOps.nil ?_
    refine uF rfl (fun hb => ?_) (fun hb => ?_)
    ·
     replace h := Sh.ite_pos hb h
     refine uC ?_
     refine uA 2 rfl trivial ?_
     refine WpOps.nil ?_
     obtain rfl := Sh.some_inj h
     refine WpC.ret ?_
     exact uU rfl rfl rfl ⟨rfl, hH⟩
    ·
     replace h := Sh.ite_neg hb h
     refine uI ?_
     refine ⟨_, uD _, ?_⟩
     refine WpC.seq ?_
     refine uC ?_
     refine uA 2 rfl trivial ?_
     refine WpOps.nil ?_
     refine uF rfl (fun hb => ?_) (fun hb => ?_)
     ·
      replace h := Sh.ite_pos hb h
      refine uC ?_
      refine uA 1 rfl trivial ?_
      refine uB (v := (iA (Sh.wsub 0 n_1))) rfl rfl (Exact.negW rfl rfl) ?_
      obtain ⟨r_1, hr_1, h⟩ := Sh.bind_some h
      refine uA 2 rfl trivial ?_
      refine uB (v := (iA r_1)) rfl rfl (Exact.call rfl rfl rfl (w_ifexpr_truth hr_1)) ?_
      refine uB (v := (iA (Sh.wmul (Sh.wsub 0 n_1) r_1))) rfl rfl (Exact.mulW rfl rfl rfl) ?_
      refine uA 2 rfl trivial ?_
      refine WpOps.nil ?_
      obtain rfl := Sh.some_inj h
      refine WpC.ret ?_
      exact uU rfl rfl rfl ⟨rfl, hH⟩
     ·
      replace h := Sh.ite_neg hb h
      refine uI ?_
      refine ⟨_, uD _, ?_⟩
      refine WpC.seq ?_
      refine uC ?_
      refine uA 2 rfl trivial ?_
      refine WpOps.nil ?_
      refine uF rfl (fun hb => ?_) (fun hb => ?_)
      ·
       replace h := Sh.ite_pos hb h
       refine uC ?_
       obtain ⟨c_1, h⟩ := Sh.chk_some h
       refine uA 2 rfl trivial ?_
       refine uB (v := (iA (Sh.wquo n_1 m_1))) rfl rfl (Exact.quoW rfl rfl rfl c_1) ?_
       refine uA 2 rfl trivial ?_
       refine WpOps.nil ?_
       obtain rfl := Sh.some_inj h
       refine WpC.ret ?_
       exact uU rfl rfl rfl ⟨rfl, hH⟩
      ·
       replace h := Sh.ite_neg hb h
       refine uI ?_
       refine ⟨_, uD _, ?_⟩
       refine uC ?_
       obtain ⟨c_2, h⟩ := Sh.chk_some h
       refine uA 5 rfl c_2 ?_
       refine WpOps.nil ?_
       obtain rfl := Sh.some_inj h
       refine WpC.ret ?_
       exact uU rfl rfl rfl ⟨rfl, hH⟩
   ·
    replace h := Sh.ite_neg hb h
    refine vG (fun x : (Bool) × (Unit) => [(0, (sA sign_1)), (1, (iA n_1)), (2, (iA m_1)), (8, (sA sign_1)), (30, (bA x.1))]) (fun x H' => (ifexpr_both_j3 sign_1 n_1 m_1) x.1 = some r ∧ Holds H0 [] H') ?_ ?_
    ·
     refine uC ?_
     refine uA 2 rfl trivial ?_
     refine WpOps.nil ?_
     refine uF rfl (fun hb => ?_) (fun hb => ?_)
     ·
      replace h := Sh.ite_pos hb h
      refine uI ?_
      exact ⟨_, (uD _), ((decide (sign_1 = ([60, 60] : List UInt8))), ()), ⟨rfl, rfl, rfl, rfl, rfl, trivial⟩, h, hH⟩
     ·
      replace h := Sh.ite_neg hb h
      refine uJ ?_
      refine uA 2 rfl trivial ?_
      refine WpOps.nil ?_
      exact ⟨_, (uD _), ((decide (sign_1 = ([62, 62] : List UInt8))), ()), ⟨rfl, rfl, rfl, rfl, rfl, trivial⟩, h, hH⟩
    ·
     rintro ⟨t30_1, _⟩ env H' ⟨h, hH⟩
     try dsimp only at h
     refine uF rfl (fun hb => ?_) (fun hb => ?_)
     ·
      replace h := Sh.ite_pos hb h
      refine WpC.seq ?_
      refine uC ?_
      refine uA 2 rfl trivial ?_
      obtain ⟨b_1, g_1, h⟩ := Sh.bind_some h
      refine uM 4 38 (bA b_1) rfl ?_ ?_
      ·
       refine uA 1 rfl trivial ?_
       refine uL 35 rfl (fun hb => ?_) (fun hb => ?_)
       ·
        replace g_1 := Sh.ite_pos hb g_1
        refine uA 3 rfl trivial ?_
        refine WpOps.nil ?_
        obtain rfl := Sh.some_inj g_1
        exact ⟨rfl, rfl⟩
       ·
        replace g_1 := Sh.ite_neg hb g_1
        refine uA 3 rfl trivial ?_
        refine WpOps.nil ?_
        obtain rfl := Sh.some_inj g_1
        exact ⟨rfl, rfl⟩
      intro env
      refine WpOps.nil ?_
      refine uF rfl (fun hb => ?_) (fun hb => ?_)
      ·
       replace h := Sh.ite_pos hb h
       refine uC ?_
       refine uA 2 rfl trivial ?_
       refine WpOps.nil ?_
       obtain rfl := Sh.some_inj h
       refine WpC.ret ?_
       exact uU rfl rfl rfl ⟨rfl, hH⟩
      ·
       replace h := Sh.ite_neg hb h
       refine uI ?_
       refine ⟨_, uD _, ?_⟩
       refine WpC.seq ?_
       refine uC ?_
       refine uA 2 rfl trivial ?_
       refine WpOps.nil ?_
       refine uF rfl (fun hb => ?_) (fun hb => ?_)
       ·
        replace h := Sh.ite_pos hb h
        refine uC ?_
        obtain ⟨c_3, h⟩ := Sh.chk_some h
        refine uA 5 rfl c_3 ?_
        refine WpOps.nil ?_
        obtain rfl := Sh.some_inj h
        refine WpC.ret ?_
        exact uU rfl rfl rfl ⟨rfl, hH⟩
       ·
        replace h := Sh.ite_neg hb h
        refine uI ?_
        refine ⟨_, uD _, ?_⟩
        refine uC ?_
        obtain ⟨c_4, h⟩ := Sh.chk_some h
        refine uA 5 rfl c_4 ?_
        refine WpOps.nil ?_
        obtain rfl := Sh.some_inj h
        refine WpC.ret ?_
        exact uU rfl rfl rfl ⟨rfl, hH⟩
     ·
      replace h := Sh.ite_neg hb h
      refine vG (fun x : (Bool) × (Unit) => [(0, (sA sign_1)), (1, (iA n_1)), (2, (iA m_1)), (47, (bA x.1))]) (fun x H' => (ifexpr_both_j4 sign_1 n_1 m_1) x.1 = some r ∧ Holds H0 [] H') ?_ ?_
      ·
       refine uC ?_
       refine uA 2 rfl trivial ?_
       refine WpOps.nil ?_
       refine uF rfl (fun hb => ?_) (fun hb => ?_)
       ·
        replace h := Sh.ite_pos hb h
        refine uI ?_
        exact ⟨_, (uD _), ((decide (sign_1 = ([124, 124] : List UInt8))), ()), ⟨rfl, rfl, rfl, rfl, trivial⟩, h, hH⟩
       ·
        replace h := Sh.ite_neg hb h
        refine uJ ?_
        refine uA 2 rfl trivial ?_
        refine WpOps.nil ?_
        exact ⟨_, (uD _), ((decide (sign_1 = ([38, 38] : List UInt8))), ()), ⟨rfl, rfl, rfl, rfl, trivial⟩, h, hH⟩
      ·
       rintro ⟨t47_1, _⟩ env H' ⟨h, hH⟩
       try dsimp only at h
       refine uF rfl (fun hb => ?_) (fun hb => ?_)
       ·
        replace h := Sh.ite_pos hb h
        refine uC ?_
        obtain ⟨r_2, hr_2, h⟩ := Sh.bind_some h
        refine uA 2 rfl trivial ?_
        refine uB (v := (iA r_2)) rfl rfl (Exact.call rfl rfl rfl (w_ifexpr_truth hr_2)) ?_
        refine uA 2 rfl trivial ?_
        refine WpOps.nil ?_
        obtain rfl := Sh.some_inj h
        refine WpC.ret ?_
        exact uU rfl rfl rfl ⟨rfl, hH⟩
       ·
        replace h := Sh.ite_neg hb h
        refine uI ?_
        exact ⟨_, (uD _), ((), ()), ⟨rfl, rfl, rfl, trivial⟩, h, hH⟩
 ·
  rintro ⟨_, _⟩ env H' ⟨h, hH⟩
  try dsimp only at h
  refine uC ?_
  obtain ⟨r_3, hr_3, h⟩ := Sh.bind_some h
  refine uA 3 rfl trivial ?_
  refine uB (v := (iA r_3)) rfl rfl (Exact.call rfl rfl rfl (w_ifexpr_plain hr_3)) ?_
  refine uA 2 rfl trivial ?_
  refine WpOps.nil ?_
  obtain rfl := Sh.some_inj h
  refine WpC.ret ?_
  exact uU rfl rfl rfl ⟨rfl, hH⟩
structure ComesOk (C : GVal → Option (Int × Int)) : Prop where
 ex : ∀ {o : Oper} {env : Env} {H : Heap} {v : GVal} {r : Int × Int} {x : Operand} {ts : Array TypeId}, o.op = .call { callee := .invoke x "emend/ifexpr.comes", args := #[], argTypes := ts } → env.ev x = valA v → C v = some r → Exact Tryz.prog o env H (.tup [(iA r.1), (iA r.2)])
theorem w_ifexpr_number_comes {H0 : Heap} {n_1 : Int} {r : Int × Int} (h : ifexpr_number_comes n_1 = some r) : TCall Tryz.prog 255 [(iA n_1)] H0 (fun v H' => v = (.tup [(iA r.1), (iA r.2)]) ∧ H' = H0) noE := by
 refine id (TCall.body Tryz.func255 rfl rfl ?_)
 have hH : Holds H0 [] H0 := rfl
 refine uC ?_
 refine uA 2 rfl trivial ?_
 refine WpOps.nil ?_
 refine uC ?_
 refine uA 3 rfl trivial ?_
 refine WpOps.nil ?_
 obtain rfl := Sh.some_inj h
 refine WpC.ret ?_
 exact uU rfl rfl rfl ⟨rfl, hH⟩
theorem mth_number (u : Value) (w : World) : (method (Tryz.prog.types.size + Made.depth) 195 u "emend/ifexpr.comes").run Tryz.prog w = .ok (255, u) w := by kernel_rfl
theorem w_ifexpr_unary_comes {C : GVal → Option (Int × Int)} (hC : ComesOk C) {H0 : Heap} {u_1 : GIfexpr_unary} {r : Int × Int} (h : ifexpr_unary_comes C u_1 = some r) : TCall Tryz.prog 256 [(AV.agg (cGIfexpr_unary u_1))] H0 (fun v H' => v = (.tup [(iA r.1), (iA r.2)]) ∧ H' = H0) noE := by
 refine id (TCall.body Tryz.func256 rfl rfl ?_)
 have hH : Holds H0 [] H0 := rfl
 refine uC ?_
 refine uE rfl rfl (WpO.boxC (v := (AV.agg (cGIfexpr_unary u_1))) (cells_cGIfexpr_unary _) rfl rfl hH fun g_1 H' hH => ?_)
 refine uA 2 rfl trivial ?_
 refine WpOps.nil ?_
 refine uC ?_
 refine uA 1 rfl trivial ?_
 refine uB (v := (valA u_1.x)) rfl rfl (Exact.load rfl rfl (hH.cell (i := 0) rfl) rfl (ldv_one rfl rfl)) ?_
 obtain ⟨r_1, hr_1, h⟩ := Sh.bind_some h
 refine uB (v := (.tup [(iA r_1.1), (iA r_1.2)])) rfl rfl (hC.ex rfl rfl hr_1) ?_
 refine uA 5 rfl trivial ?_
 refine WpOps.nil ?_
 refine vG (fun x : (Int) × (Unit) => [(4, (iA x.1)), (5, (iA r_1.2))]) (fun x H' => ((ifexpr_unary_comes_j1 C) r_1) x.1 = some r ∧ Holds H0 [] H') ?_ ?_
 ·
  refine uC ?_
  refine uA 1 rfl trivial ?_
  refine uB (v := (sA u_1.sign)) rfl rfl (Exact.load rfl rfl (hH.cell (i := 0) rfl) rfl rfl) ?_
  refine WpOps.nil ?_
  refine WpC.block ?_
  refine uC ?_
  refine uA 2 rfl trivial ?_
  refine WpOps.nil ?_
  refine uF rfl (fun hb => ?_) (fun hb => ?_)
  ·
   replace h := Sh.ite_pos hb h
   refine uJ ?_
   refine uA 1 rfl trivial ?_
   refine uB (v := (iA (Sh.wsub 0 r_1.1))) rfl rfl (Exact.negW rfl rfl) ?_
   refine uA 1 rfl trivial ?_
   refine WpOps.nil ?_
   obtain ⟨_, hle_1, hH⟩ := hH.lose_ (i := 0) rfl
   exact ⟨_, hle_1, ((Sh.wsub 0 r_1.1), ()), ⟨rfl, rfl, trivial⟩, h, hH⟩
  ·
   replace h := Sh.ite_neg hb h
   refine uC ?_
   refine uA 2 rfl trivial ?_
   refine WpOps.nil ?_
   refine uF rfl (fun hb => ?_) (fun hb => ?_)
   ·
    replace h := Sh.ite_pos hb h
    refine uJ ?_
    obtain ⟨r_2, hr_2, h⟩ := Sh.bind_some h
    refine uA 2 rfl trivial ?_
    refine uB (v := (iA r_2)) rfl rfl (Exact.call rfl rfl rfl (w_ifexpr_truth hr_2)) ?_
    refine uA 1 rfl trivial ?_
    refine WpOps.nil ?_
    obtain ⟨_, hle_2, hH⟩ := hH.lose_ (i := 0) rfl
    exact ⟨_, hle_2, (r_2, ()), ⟨rfl, rfl, trivial⟩, h, hH⟩
   ·
    replace h := Sh.ite_neg hb h
    refine uC ?_
    refine uA 2 rfl trivial ?_
    refine WpOps.nil ?_
    refine uF rfl (fun hb => ?_) (fun hb => ?_)
    ·
     replace h := Sh.ite_pos hb h
     refine uJ ?_
     refine uA 1 rfl trivial ?_
     refine uB (v := (iA (Sh.wxor (-1) r_1.1))) rfl rfl (Exact.xorW rfl rfl) ?_
     refine uA 1 rfl trivial ?_
     refine WpOps.nil ?_
     obtain ⟨_, hle_3, hH⟩ := hH.lose_ (i := 0) rfl
     exact ⟨_, hle_3, ((Sh.wxor (-1) r_1.1), ()), ⟨rfl, rfl, trivial⟩, h, hH⟩
    ·
     replace h := Sh.ite_neg hb h
     refine uI ?_
     obtain ⟨_, hle_4, hH⟩ := hH.lose_ (i := 0) rfl
     exact ⟨_, hle_4, (r_1.1, ()), ⟨rfl, rfl, trivial⟩, h, hH⟩
 ·
  rintro ⟨n_1, _⟩ env H' ⟨h, hH⟩
  try dsimp only at h
  refine WpC.seq ?_
  refine uC ?_
  refine uA 2 rfl trivial ?_
  refine WpOps.nil ?_
  refine uF rfl (fun hb => ?_) (fun hb => ?_)
  ·
   replace h := Sh.ite_pos hb h
   refine uC ?_
   refine uA 3 rfl trivial ?_
   refine WpOps.nil ?_
   obtain rfl := Sh.some_inj h
   refine WpC.ret ?_
   exact uU rfl rfl rfl ⟨rfl, hH⟩
  ·
   replace h := Sh.ite_neg hb h
   refine uI ?_
   refine ⟨_, uD _, ?_⟩
   refine uC ?_
   refine uA 3 rfl trivial ?_
   refine WpOps.nil ?_
   obtain rfl := Sh.some_inj h
   refine WpC.ret ?_
   exact uU rfl rfl rfl ⟨rfl, hH⟩
theorem mth_unary (u : Value) (w : World) : (method (Tryz.prog.types.size + Made.depth) 210 u "emend/ifexpr.comes").run Tryz.prog w = .ok (256, u) w := by kernel_rfl
theorem w_ifexpr_binary_comes {C : GVal → Option (Int × Int)} (hC : ComesOk C) {H0 : Heap} {b_1 : GIfexpr_binary} {r : Int × Int} (h : ifexpr_binary_comes C b_1 = some r) : TCall Tryz.prog 251 [(AV.agg (cGIfexpr_binary b_1))] H0 (fun v H' => v = (.tup [(iA r.1), (iA r.2)]) ∧ H' = H0) noE := by
 refine id (TCall.body Tryz.func251 rfl rfl ?_)
 have hH : Holds H0 [] H0 := rfl
 refine uC ?_
 refine uE rfl rfl (WpO.boxC (v := (AV.agg (cGIfexpr_binary b_1))) (cells_cGIfexpr_binary _) rfl rfl hH fun g_1 H' hH => ?_)
 refine uA 2 rfl trivial ?_
 refine WpOps.nil ?_
 refine uC ?_
 refine uA 1 rfl trivial ?_
 refine uB (v := (valA b_1.x)) rfl rfl (Exact.load rfl rfl (hH.cell (i := 0) rfl) rfl (ldv_one rfl rfl)) ?_
 obtain ⟨r_1, hr_1, h⟩ := Sh.bind_some h
 refine uB (v := (.tup [(iA r_1.1), (iA r_1.2)])) rfl rfl (hC.ex rfl rfl hr_1) ?_
 refine uA 5 rfl trivial ?_
 refine WpOps.nil ?_
 refine WpC.seq ?_
 refine WpC.block ?_
 refine uC ?_
 refine uA 3 rfl trivial ?_
 refine WpOps.nil ?_
 refine uF rfl (fun hb => ?_) (fun hb => ?_)
 ·
  replace h := Sh.ite_pos hb h
  refine uC ?_
  refine uA 3 rfl trivial ?_
  refine WpOps.nil ?_
  refine uP (i := 0) hH rfl (fun H' hH => ?_)
  obtain rfl := Sh.some_inj h
  refine WpC.ret ?_
  exact uU rfl rfl rfl ⟨rfl, hH⟩
 ·
  replace h := Sh.ite_neg hb h
  refine uC ?_
  refine uA 1 rfl trivial ?_
  refine uB (v := (sA b_1.sign)) rfl rfl (Exact.load rfl rfl (hH.cell (i := 0) rfl) rfl rfl) ?_
  refine uA 1 rfl trivial ?_
  obtain ⟨b_2, g_2, h⟩ := Sh.bind_some h
  refine uM 4 24 (bA b_2) rfl ?_ ?_
  ·
   refine uA 1 rfl trivial ?_
   refine uL 21 rfl (fun hb => ?_) (fun hb => ?_)
   ·
    replace g_2 := Sh.ite_pos hb g_2
    refine uA 3 rfl trivial ?_
    refine WpOps.nil ?_
    obtain rfl := Sh.some_inj g_2
    exact ⟨rfl, rfl⟩
   ·
    replace g_2 := Sh.ite_neg hb g_2
    refine uA 3 rfl trivial ?_
    refine WpOps.nil ?_
    obtain rfl := Sh.some_inj g_2
    exact ⟨rfl, rfl⟩
  intro env
  refine uA 1 rfl trivial ?_
  refine WpOps.nil ?_
  refine uF rfl (fun hb => ?_) (fun hb => ?_)
  ·
   replace h := Sh.ite_pos hb h
   refine uC ?_
   refine uA 2 rfl trivial ?_
   refine WpOps.nil ?_
   refine uP (i := 0) hH rfl (fun H' hH => ?_)
   obtain rfl := Sh.some_inj h
   refine WpC.ret ?_
   exact uU rfl rfl rfl ⟨rfl, hH⟩
  ·
   replace h := Sh.ite_neg hb h
   refine uC ?_
   refine uA 1 rfl trivial ?_
   refine uB (v := (sA b_1.sign)) rfl rfl (Exact.load rfl rfl (hH.cell (i := 0) rfl) rfl rfl) ?_
   refine uA 1 rfl trivial ?_
   obtain ⟨b_3, g_3, h⟩ := Sh.bind_some h
   refine uM 4 32 (bA b_3) rfl ?_ ?_
   ·
    refine uA 1 rfl trivial ?_
    refine uL 29 rfl (fun hb => ?_) (fun hb => ?_)
    ·
     replace g_3 := Sh.ite_pos hb g_3
     refine uA 3 rfl trivial ?_
     refine WpOps.nil ?_
     obtain rfl := Sh.some_inj g_3
     exact ⟨rfl, rfl⟩
    ·
     replace g_3 := Sh.ite_neg hb g_3
     refine uA 3 rfl trivial ?_
     refine WpOps.nil ?_
     obtain rfl := Sh.some_inj g_3
     exact ⟨rfl, rfl⟩
   intro env
   refine uA 1 rfl trivial ?_
   refine WpOps.nil ?_
   refine uF rfl (fun hb => ?_) (fun hb => ?_)
   ·
    replace h := Sh.ite_pos hb h
    refine uC ?_
    refine uA 2 rfl trivial ?_
    refine WpOps.nil ?_
    refine uP (i := 0) hH rfl (fun H' hH => ?_)
    obtain rfl := Sh.some_inj h
    refine WpC.ret ?_
    exact uU rfl rfl rfl ⟨rfl, hH⟩
   ·
    replace h := Sh.ite_neg hb h
    refine uI ?_
    refine ⟨_, uD _, ?_⟩
    refine uC ?_
    refine uA 1 rfl trivial ?_
    refine uB (v := (valA b_1.y)) rfl rfl (Exact.load rfl rfl (hH.cell (i := 0) rfl) rfl (ldv_one rfl rfl)) ?_
    obtain ⟨r_2, hr_2, h⟩ := Sh.bind_some h
    refine uB (v := (.tup [(iA r_2.1), (iA r_2.2)])) rfl rfl (hC.ex rfl rfl hr_2) ?_
    refine uA 5 rfl trivial ?_
    refine WpOps.nil ?_
    refine WpC.seq ?_
    refine uC ?_
    refine uA 2 rfl trivial ?_
    refine WpOps.nil ?_
    refine uF rfl (fun hb => ?_) (fun hb => ?_)
    ·
     replace h := Sh.ite_pos hb h
     refine uC ?_
     refine uA 3 rfl trivial ?_
     refine WpOps.nil ?_
     refine uP (i := 0) hH rfl (fun H' hH => ?_)
     obtain rfl := Sh.some_inj h
     refine WpC.ret ?_
     exact uU rfl rfl rfl ⟨rfl, hH⟩
    ·
     replace h := Sh.ite_neg hb h
     refine uI ?_
     refine ⟨_, uD _, ?_⟩
     refine uC ?_
     refine uA 1 rfl trivial ?_
     refine uB (v := (sA b_1.sign)) rfl rfl (Exact.load rfl rfl (hH.cell (i := 0) rfl) rfl rfl) ?_
     obtain ⟨r_3, hr_3, h⟩ := Sh.bind_some h
     refine uA 2 rfl trivial ?_
     refine uB (v := (.tup [(iA r_3.1), (iA r_3.2)])) rfl rfl (Exact.call rfl rfl rfl (w_ifexpr_both hr_3)) ?_
     refine uA 4 rfl trivial ?_
     refine WpOps.nil ?_
     refine uP (i := 0) hH rfl (fun H' hH => ?_)
     obtain rfl := Sh.some_inj h
     refine WpC.ret ?_
     exact uU rfl rfl rfl ⟨rfl, hH⟩
theorem mth_binary (u : Value) (w : World) : (method (Tryz.prog.types.size + Made.depth) 194 u "emend/ifexpr.comes").run Tryz.prog w = .ok (251, u) w := by kernel_rfl
theorem w_ifexpr_choice_comes {C : GVal → Option (Int × Int)} (hC : ComesOk C) {H0 : Heap} {c_1 : GIfexpr_choice} {r : Int × Int} (h : ifexpr_choice_comes C c_1 = some r) : TCall Tryz.prog 238 [(AV.agg (cGIfexpr_choice c_1))] H0 (fun v H' => v = (.tup [(iA r.1), (iA r.2)]) ∧ H' = H0) noE := by
 refine id (TCall.body Tryz.func238 rfl rfl ?_)
 have hH : Holds H0 [] H0 := rfl
 refine uC ?_
 refine uE rfl rfl (WpO.boxC (v := (AV.agg (cGIfexpr_choice c_1))) (cells_cGIfexpr_choice _) rfl rfl hH fun g_1 H' hH => ?_)
 refine uA 2 rfl trivial ?_
 refine WpOps.nil ?_
 refine uC ?_
 refine uA 1 rfl trivial ?_
 refine uB (v := (valA c_1.c)) rfl rfl (Exact.load rfl rfl (hH.cell (i := 0) rfl) rfl (ldv_one rfl rfl)) ?_
 obtain ⟨r_1, hr_1, h⟩ := Sh.bind_some h
 refine uB (v := (.tup [(iA r_1.1), (iA r_1.2)])) rfl rfl (hC.ex rfl rfl hr_1) ?_
 refine uA 5 rfl trivial ?_
 refine WpOps.nil ?_
 refine WpC.seq ?_
 refine WpC.block ?_
 refine uC ?_
 refine uA 3 rfl trivial ?_
 refine WpOps.nil ?_
 refine uF rfl (fun hb => ?_) (fun hb => ?_)
 ·
  replace h := Sh.ite_pos hb h
  refine uC ?_
  refine uA 3 rfl trivial ?_
  refine WpOps.nil ?_
  refine uP (i := 0) hH rfl (fun H' hH => ?_)
  obtain rfl := Sh.some_inj h
  refine WpC.ret ?_
  exact uU rfl rfl rfl ⟨rfl, hH⟩
 ·
  replace h := Sh.ite_neg hb h
  refine uC ?_
  refine uA 3 rfl trivial ?_
  refine WpOps.nil ?_
  refine uF rfl (fun hb => ?_) (fun hb => ?_)
  ·
   replace h := Sh.ite_pos hb h
   refine uC ?_
   refine uA 1 rfl trivial ?_
   refine uB (v := (valA c_1.x)) rfl rfl (Exact.load rfl rfl (hH.cell (i := 0) rfl) rfl (ldv_one rfl rfl)) ?_
   obtain ⟨r_2, hr_2, h⟩ := Sh.bind_some h
   refine uB (v := (.tup [(iA r_2.1), (iA r_2.2)])) rfl rfl (hC.ex rfl rfl hr_2) ?_
   refine uA 4 rfl trivial ?_
   refine WpOps.nil ?_
   refine uP (i := 0) hH rfl (fun H' hH => ?_)
   obtain rfl := Sh.some_inj h
   refine WpC.ret ?_
   exact uU rfl rfl rfl ⟨rfl, hH⟩
  ·
   replace h := Sh.ite_neg hb h
   refine uI ?_
   refine ⟨_, uD _, ?_⟩
   refine uC ?_
   refine uA 1 rfl trivial ?_
   refine uB (v := (valA c_1.y)) rfl rfl (Exact.load rfl rfl (hH.cell (i := 0) rfl) rfl (ldv_one rfl rfl)) ?_
   obtain ⟨r_3, hr_3, h⟩ := Sh.bind_some h
   refine uB (v := (.tup [(iA r_3.1), (iA r_3.2)])) rfl rfl (hC.ex rfl rfl hr_3) ?_
   refine uA 4 rfl trivial ?_
   refine WpOps.nil ?_
   refine uP (i := 0) hH rfl (fun H' hH => ?_)
   obtain rfl := Sh.some_inj h
   refine WpC.ret ?_
   exact uU rfl rfl rfl ⟨rfl, hH⟩
theorem mth_choice (u : Value) (w : World) : (method (Tryz.prog.types.size + Made.depth) 143 u "emend/ifexpr.comes").run Tryz.prog w = .ok (238, u) w := by kernel_rfl
theorem comesF_ok {C : GVal → Option (Int × Int)} (hC : ComesOk C) : ComesOk (comesF C) := ⟨fun {o env H v r x ts} ho hx h => by
 cases v with
 | num n => exact Exact.invoke ho hx (by kernel_rfl) (fun u w _ => mth_number u w) (w_ifexpr_number_comes h)
 | un s x => exact Exact.invoke ho hx (by kernel_rfl) (fun u w _ => mth_unary u w) (w_ifexpr_unary_comes hC h)
 | bin s x y => exact Exact.invoke ho hx (by kernel_rfl) (fun u w _ => mth_binary u w) (w_ifexpr_binary_comes hC h)
 | cho c x y => exact Exact.invoke ho hx (by kernel_rfl) (fun u w _ => mth_choice u w) (w_ifexpr_choice_comes hC h)⟩
theorem comesN_ok : ∀ n, ComesOk (comesN n)
  | 0 => ⟨fun _ _ h => by cases h⟩
  | n + 1 => comesF_ok (comesN_ok n)
theorem ex_comesV {o : Oper} {env : Env} {H : Heap} {v : GVal} {r : Int × Int} {x : Operand} {ts : Array TypeId} (ho : o.op = .call { callee := .invoke x "emend/ifexpr.comes", args := #[], argTypes := ts }) (hx : env.ev x = valA v) (h : comesV v = some r) : Exact Tryz.prog o env H (.tup [(iA r.1), (iA r.2)]) := (comesN_ok 2000).ex ho hx h
theorem w_emendtop_one {H0 : Heap} {text_1 : List UInt8} {r : List GFile} (h : emendtop_one text_1 = some r) : TCall Tryz.prog 11 [(sA text_1)] H0 (fun v H' => v = (AV.rows 2 (List.map cGFile r)) ∧ H' = H0) noE := by
 refine id (TCall.body Tryz.func11 rfl rfl ?_)
 have hH : Holds H0 [] H0 := rfl
 refine uC ?_
 refine uA 1 rfl trivial ?_
 refine WpOps.nil ?_
 refine uC ?_
 refine uA 2 rfl trivial ?_
 refine uB (v := (AV.rows 2 (List.map cGFile ([(GFile.mk ([97, 46, 99] : List UInt8) text_1)] : List GFile)))) rfl rfl (uW rfl (by kernel_rfl)) ?_
 refine uA 1 rfl trivial ?_
 refine WpOps.nil ?_
 obtain rfl := Sh.some_inj h
 refine WpC.ret ?_
 exact uH rfl rfl ⟨rfl, hH⟩
theorem w_splice_Join {H0 : Heap} {text_1 : List UInt8} {r : List GChar} (h : splice_Join text_1 = some r) : TCall Tryz.prog 28 [(sA text_1)] H0 (fun v H' => v = (AV.rows 2 (List.map cGChar r)) ∧ H' = H0) noE := by
  refine id (TCall.body Tryz.func28 rfl rfl ?_)
  have hH : Holds H0 [] H0 := rfl
  refine uC ?_
  refine uA 1 rfl trivial ?_
  refine WpOps.nil ?_
  refine uC ?_
  refine uE rfl rfl (vC rfl rfl hH fun g_1 H' hH => ?_)
  have hH := hH.nil 87 2
  refine WpOps.nil ?_
  refine WpC.seq ?_
  refine uC ?_
  obtain ⟨it_1, hit_1, h⟩ := Sh.bind_some h
  refine uA 1 rfl trivial ?_
  refine uE rfl rfl (WpO.callN rfl rfl rfl hH (fun HH => w_chars HH) fun g_2 H' hH => ?_)
  refine WpOps.nil ?_
  refine WpC.block ?_
  obtain ⟨o_1, ho_1, hk_1⟩ := Sh.bind_some h
  refine WpC.rangeS splice_Join_b1 it_1 (fun x : GChar => [AV.agg (cGChar x)]) (fun (s : List GChar) (a : (Option (Nat × Nat))) => [.cell g_2 9 (cS text_1), .own 87 2 a (List.map cGChar s), .cell g_1 78 [.own (List.map cGChar s).length a]]) o_1 ([] : List GChar) none ho_1 rfl rfl (by decide) (by obtain ⟨hl, e⟩ := chars_some hit_1; rw [e]; exact w_chars_c1 hl (Heap.one_at _ _)) (fun _ => rfl) (fun s a H hH => Heap.one_le (hH.cell (i := 0) rfl)) hH ?_ ?_
  ·
    rintro x_1 l_1 p_1 st_1 H' h hd_1 hH
    refine uJ ?_
    refine uE rfl rfl (vC (z := cGChar (GChar.mk (0 : UInt8) (0 : Int))) rfl rfl hH fun g_3 H' hH => ?_)
    refine uE rfl rfl (uQ (cs' := (cGChar x_1)) (v := (AV.agg (cGChar x_1))) rfl rfl hH (i := 0) rfl rfl rfl rfl rfl rfl rfl fun H' hH => ?_)
    refine WpOps.nil ?_
    refine ⟨_, uD _, ?_⟩
    refine WpC.block ?_
    refine uJ ?_
    refine uB rfl rfl (Exact.load rfl rfl (hH.cell (i := 3) rfl) rfl rfl) ?_
    refine uB (v := (AV.agg (cGChar x_1))) rfl rfl (Exact.load rfl rfl (hH.cell (i := 0) rfl) rfl rfl) ?_
    refine uB (v := (AV.rows 2 (List.map cGChar ([x_1] : List GChar)))) rfl rfl (uW rfl (by kernel_rfl)) ?_
    obtain ⟨c_1, h⟩ := Sh.chk_some h
    refine uE rfl rfl (vL cGChar l_1 ([x_1] : List GChar) (i := 2) rfl ek78 hH rfl rfl rfl (.rows _) (fun y _ => one_cGChar y) (by simp) c_1 (by decide) fun p_2 H' hH => ?_)
    refine uE rfl rfl (uQ rfl rfl hH (i := 3) rfl rfl rfl rfl rfl rfl rfl fun H' hH => ?_)
    refine WpOps.nil ?_
    obtain ⟨_, hle_1, hH⟩ := hH.lose_ (i := 0) rfl
    obtain rfl := Sh.some_inj h
    exact ⟨_, hle_1, (l_1 ++ ([x_1] : List GChar)), p_2, rfl, hH⟩
  ·
    rintro l_2 p_3 H' rfl hH
    have h := hk_1
    refine uC ?_
    refine uB rfl rfl (Exact.load rfl rfl (hH.cell (i := 2) rfl) rfl rfl) ?_
    refine uA 1 rfl trivial ?_
    refine WpOps.nil ?_
    refine vJ (t := 2) (i := 1) hH rfl rfl (fun H' hH => ?_)
    refine uP (i := 0) hH rfl (fun H' hH => ?_)
    refine uP (i := 0) hH rfl (fun H' hH => ?_)
    obtain rfl := Sh.some_inj h
    refine WpC.ret ?_
    exact uH rfl rfl ⟨rfl, hH⟩
theorem w_splice_Text {H0 : Heap} {l_1 : List GChar} {r : List UInt8} (h : splice_Text l_1 = some r) : TCall Tryz.prog 29 [(AV.rows 2 (List.map cGChar l_1))] H0 (fun v H' => v = (sA r) ∧ H' = H0) noE := by
  refine id (TCall.body Tryz.func29 rfl rfl ?_)
  have hH : Holds H0 [] H0 := rfl
  refine uC ?_
  refine uA 1 rfl trivial ?_
  refine WpOps.nil ?_
  refine uC ?_
  refine uA 2 rfl trivial ?_
  refine uN 7 (len_map _ _) ?_
  obtain ⟨c_1, h⟩ := Sh.chk_some h
  refine uE rfl rfl (WpO.makeT cU (z := (0 : UInt8)) (n := (l_1.length : Int)) c_1 rfl rfl rfl hH rfl rfl rfl rfl (by decide) fun g_1 cp_1 H' hH => ?_)
  refine uA 1 rfl trivial ?_
  refine WpOps.nil ?_
  refine WpC.seq ?_
  refine uC ?_
  refine uA 2 rfl trivial ?_
  refine uN 10 (len_map _ _) ?_
  refine uA 1 rfl trivial ?_
  refine WpOps.nil ?_
  refine vA (fun x : (List UInt8) × ((Option (Nat × Nat))) => [(3, (.own (List.map cU x.1).length x.2))]) (fun x H' => splice_Text_j1 x.1 = some r ∧ Holds H0 [.own 5 1 x.2 (List.map cU x.1)] H') ?_ ?_
  ·
    obtain ⟨o_1, ho_1, hk_1⟩ := Sh.bind_some h
    refine uX (splice_Text_b2 l_1) (fun (s : Int × List UInt8) (a : (Option (Nat × Nat))) => [(3, (.own (List.map cU s.2).length a)), (9, (AV.rows 2 (List.map cGChar l_1))), (10, (iA (l_1.length : Int))), (11, (iA s.1))]) (fun (s : Int × List UInt8) (a : (Option (Nat × Nat))) H' => Holds H0 [.own 5 1 a (List.map cU s.2)] H') o_1 ((0 : Int), (List.replicate ((l_1.length : Int)).toNat (0 : UInt8))) (some (g_1, cp_1)) ho_1 ⟨rfl, rfl, rfl, rfl, trivial⟩ hH ?_
    rintro ⟨t11_1, b_1⟩ p_1 st_1 env H' h hd_1 hH
    refine uC ?_
    refine uA 1 rfl trivial ?_
    refine WpOps.nil ?_
    refine WpC.seq ?_
    refine uF rfl (fun hb => ?_) (fun hb => ?_)
    ·
      replace h := Sh.ite_pos hb h
      refine uI ?_
      refine ⟨_, uD _, ?_⟩
      refine WpC.seq ?_
      refine WpC.block ?_
      refine uC ?_
      obtain ⟨y_1, hy_1, h⟩ := Sh.bind_some h
      refine uA 1 rfl trivial ?_
      refine uB (v := (.rop (cGChar y_1))) rfl rfl (uR cGChar hy_1 rfl rfl rfl rfl (by kernel_rfl) (by decide)) ?_
      refine uB (v := (AV.agg (cGChar y_1))) rfl rfl (uG rfl rfl rfl) ?_
      refine uE rfl rfl (vC (z := cGChar (GChar.mk (0 : UInt8) (0 : Int))) rfl rfl hH fun g_2 H' hH => ?_)
      refine uA 1 rfl trivial ?_
      refine uE rfl rfl (uQ (cs' := (cGChar y_1)) (v := (AV.agg (cGChar y_1))) rfl rfl hH (i := 0) rfl rfl rfl rfl rfl rfl rfl fun H' hH => ?_)
      refine WpOps.nil ?_
      refine uJ ?_
      refine uA 3 rfl trivial ?_
      refine uB (v := (u8A y_1.b)) rfl rfl (Exact.load rfl rfl (hH.cell (i := 0) rfl) rfl rfl) ?_
      obtain ⟨y_2, hy_2, h⟩ := Sh.bind_some h
      have hq_1 := h; have hq_2 := hH
      obtain ⟨g_3, cp_2, rfl⟩ := hq_2.grown (i := 1) rfl (ne_of_ix hy_2)
      have h := hq_1; have hH := hq_2
      refine uB rfl rfl (vP (size := 1) cU hy_2 rfl rfl rfl rfl (by kernel_rfl) (by decide)) ?_
      refine uE rfl rfl (wA (off := 0) (i := 1) cU (y' := y_1.b) (v := (u8A y_1.b)) hy_2 hH rfl rfl rfl rfl rfl rfl rfl rfl rfl fun H' hH => ?_)
      refine uN 3 (own_set cU b_1 (t11_1).toNat y_1.b _) ?_
      refine uN 16 (own_set cU b_1 (t11_1).toNat y_1.b _) ?_
      refine WpOps.nil ?_
      refine ⟨_, uD _, ?_⟩
      refine uJ ?_
      obtain ⟨c_2, h⟩ := Sh.chk_some h
      refine uA 2 rfl c_2 ?_
      refine WpOps.nil ?_
      obtain ⟨_, hle_1, hH⟩ := hH.lose_ (i := 0) rfl
      obtain rfl := Sh.some_inj h
      exact ⟨_, hle_1, ((t11_1 + (1 : Int)), (b_1.set (t11_1).toNat y_1.b)), (some (g_3, cp_2)), rfl, ⟨rfl, rfl, rfl, rfl, trivial⟩, hH⟩
    ·
      replace h := Sh.ite_neg hb h
      obtain rfl := Sh.some_inj h
      have e := hd_1 _ rfl
      subst e
      refine WpC.exit ?_
      exact ⟨(b_1, p_1), ⟨rfl, trivial⟩, hk_1, hH⟩
  ·
    rintro ⟨b_2, p_2⟩ env H' ⟨h, hH⟩
    try dsimp only at h
    refine ⟨_, uD _, ?_⟩
    refine uC ?_
    refine uA 1 rfl trivial ?_
    refine uB (v := (sA b_2)) rfl rfl (vX (bs := b_2) rfl rfl rfl rfl rfl (hH.src (i := 0) rfl)) ?_
    refine uA 1 rfl trivial ?_
    refine WpOps.nil ?_
    refine uP (i := 0) hH rfl (fun H' hH => ?_)
    obtain rfl := Sh.some_inj h
    refine WpC.ret ?_
    exact uH rfl rfl ⟨rfl, hH⟩
theorem w_pptok_reader_byte {H : Heap} {g_1 : Nat} {r_1 : GPptok_reader} {far_1 : Int} (hg : H g_1 = some (.cells 83 (cGPptok_reader r_1))) {r : UInt8} (h : pptok_reader_byte r_1 far_1 = some r) : TCall Tryz.prog 61 [(.lit (.pointer (some ⟨g_1, 0, none⟩))), (iA far_1)] H (fun v H' => v = (u8A r) ∧ H' = H) noE := by
 obtain ⟨H0, hH⟩ : ∃ H0, Holds H0 [.cell g_1 83 (cGPptok_reader r_1)] H := ⟨_, vR hg⟩
 refine TCall.held hH (id (TCall.body Tryz.func61 rfl rfl ?_))
 refine uC ?_
 refine uA 1 rfl trivial ?_
 refine WpOps.nil ?_
 refine WpC.seq ?_
 refine vO [.I, .I, .I, .S, .I, .I, .I, .I, .I, .S] [0, 1, 2, 3, 4, 5, 6, 7, 8, 9, 10, 11] (by kernel_rfl) (by kernel_rfl) ?_
 refine uK 3 rfl trivial ?_
 refine uT (v := (iA r_1.at_)) rfl rfl rfl rfl (Exact.load rfl rfl (hH.cell (i := 0) rfl) rfl rfl) ?_
 obtain ⟨c_1, h⟩ := Sh.chk_some h
 refine uK 5 rfl c_1 ?_
 refine uT (v := (sA r_1.s)) rfl rfl rfl rfl (Exact.load rfl rfl (hH.cell (i := 0) rfl) rfl rfl) ?_
 refine uK 2 rfl trivial ?_
 refine WpPi.nil ?_
 refine uF rfl (fun hb => ?_) (fun hb => ?_)
 ·
  replace h := Sh.ite_pos hb h
  refine uC ?_
  refine uA 1 rfl trivial ?_
  refine WpOps.nil ?_
  obtain rfl := Sh.some_inj h
  refine WpC.ret ?_
  exact uH rfl rfl ⟨rfl, hH⟩
 ·
  replace h := Sh.ite_neg hb h
  refine uI ?_
  refine ⟨_, uD _, ?_⟩
  refine vO [.I, .I, .I, .S, .I, .I, .I, .S] [0, 1, 2, 3, 4, 5, 6, 7, 8, 9, 10, 11] (by kernel_rfl) (by kernel_rfl) ?_
  refine uK 3 rfl trivial ?_
  refine uT (v := (sA r_1.s)) rfl rfl rfl rfl (Exact.load rfl rfl (hH.cell (i := 0) rfl) rfl rfl) ?_
  refine uK 3 rfl trivial ?_
  refine uT (v := (iA r_1.at_)) rfl rfl rfl rfl (Exact.load rfl rfl (hH.cell (i := 0) rfl) rfl rfl) ?_
  obtain ⟨c_2, h⟩ := Sh.chk_some h
  obtain ⟨ch_1, hch_1, h⟩ := Sh.bind_some h
  refine uK 2 rfl c_2 ?_
  refine uV (v := (u8A ch_1)) rfl rfl rfl rfl (fun _ => Exact.ixs hch_1 rfl rfl rfl rfl) ?_
  refine uK 1 rfl trivial ?_
  refine WpPi.nil ?_
  obtain rfl := Sh.some_inj h
  refine WpC.ret ?_
  exact uH rfl rfl ⟨rfl, hH⟩
theorem w_pptok_reader_has {H : Heap} {g_1 : Nat} {r_1 : GPptok_reader} {s_1 : List UInt8} (hg : H g_1 = some (.cells 83 (cGPptok_reader r_1))) {r : Bool} (h : pptok_reader_has r_1 s_1 = some r) : TCall Tryz.prog 62 [(.lit (.pointer (some ⟨g_1, 0, none⟩))), (sA s_1)] H (fun v H' => v = (bA r) ∧ H' = H) noE := by
 obtain ⟨H0, hH⟩ : ∃ H0, Holds H0 [.cell g_1 83 (cGPptok_reader r_1)] H := ⟨_, vR hg⟩
 refine TCall.held hH (id (TCall.body Tryz.func62 rfl rfl ?_))
 refine uC ?_
 refine uA 1 rfl trivial ?_
 refine WpOps.nil ?_
 refine vO [.I, .I, .I, .S, .I, .I, .I, .S] [0, 1, 2, 3, 4, 5, 6, 7, 8, 9, 10, 11] (by kernel_rfl) (by kernel_rfl) ?_
 refine uK 3 rfl trivial ?_
 refine uT (v := (sA r_1.s)) rfl rfl rfl rfl (Exact.load rfl rfl (hH.cell (i := 0) rfl) rfl rfl) ?_
 refine uK 3 rfl trivial ?_
 refine uT (v := (iA r_1.at_)) rfl rfl rfl rfl (Exact.load rfl rfl (hH.cell (i := 0) rfl) rfl rfl) ?_
 obtain ⟨c_1, h⟩ := Sh.chk_some h
 refine uK 1 rfl (show 0 ≤ r_1.at_ ∧ True ∧ (r_1.at_).toNat ≤ r_1.s.length from ⟨(by omega), trivial, (by omega)⟩) ?_
 refine uK 1 rfl trivial ?_
 refine uV (v := (bA (Lib.hasPrefix (r_1.s.drop (r_1.at_).toNat) s_1))) rfl rfl rfl rfl (fun _ => Exact.call rfl rfl rfl (l_HasPrefix (r_1.s.drop (r_1.at_).toNat) s_1)) ?_
 refine uK 1 rfl trivial ?_
 refine WpPi.nil ?_
 obtain rfl := Sh.some_inj h
 refine WpC.ret ?_
 exact uH rfl rfl ⟨rfl, hH⟩
theorem w_pptok_reader_blank {H0 H : Heap} {g_1 : Nat} (hG : Glob H0) {r_1 : GPptok_reader} (hH : Holds H0 [.cell g_1 83 (cGPptok_reader r_1)] H) {r : (Bool) × GPptok_reader} (h : pptok_reader_blank r_1 = some r) : TCall Tryz.prog 30 [(.lit (.pointer (some ⟨g_1, 0, none⟩)))] H (fun v H' => v = (bA r.1) ∧ Holds H0 [.cell g_1 83 (cGPptok_reader r.2)] H') noE := by
 refine TCall.body Tryz.func30 rfl rfl ?_
 refine uC ?_
 refine uA 1 rfl trivial ?_
 refine WpOps.nil ?_
 refine vG (fun x : (GPptok_reader) × (Unit) => [(0, (.lit (.pointer (some ⟨g_1, 0, none⟩))))]) (fun x H' => pptok_reader_blank_j1 x.1 = some r ∧ Holds H0 [.cell g_1 83 (cGPptok_reader x.1)] H') ?_ ?_
 ·
  refine uC ?_
  obtain ⟨r_2, hr_1, h⟩ := Sh.bind_some h
  refine uA 1 rfl trivial ?_
  refine uB (v := (u8A r_2)) rfl rfl (Exact.call rfl rfl rfl (w_pptok_reader_byte (hH.cell (i := 0) rfl) hr_1)) ?_
  refine WpOps.nil ?_
  refine WpC.block ?_
  refine vG (fun x : (Bool) × (Unit) => [(0, (.lit (.pointer (some ⟨g_1, 0, none⟩)))), (7, (bA x.1))]) (fun x H' => (pptok_reader_blank_j2 r_1) x.1 = some r ∧ Holds H0 [.cell g_1 83 (cGPptok_reader r_1)] H') ?_ ?_
  ·
   refine uC ?_
   refine uA 2 rfl trivial ?_
   refine WpOps.nil ?_
   refine uF rfl (fun hb => ?_) (fun hb => ?_)
   ·
    replace h := Sh.ite_pos hb h
    refine uI ?_
    exact ⟨_, (uD _), ((decide ((r_2.toNat : Int) = (32 : Int))), ()), ⟨rfl, rfl, trivial⟩, h, hH⟩
   ·
    replace h := Sh.ite_neg hb h
    refine uC ?_
    refine uA 2 rfl trivial ?_
    refine WpOps.nil ?_
    refine uF rfl (fun hb => ?_) (fun hb => ?_)
    ·
     replace h := Sh.ite_pos hb h
     refine uI ?_
     exact ⟨_, (uD _), ((decide ((r_2.toNat : Int) = (9 : Int))), ()), ⟨rfl, rfl, trivial⟩, h, hH⟩
    ·
     replace h := Sh.ite_neg hb h
     refine uC ?_
     refine uA 2 rfl trivial ?_
     refine WpOps.nil ?_
     refine uF rfl (fun hb => ?_) (fun hb => ?_)
     ·
      replace h := Sh.ite_pos hb h
      refine uI ?_
      exact ⟨_, (uD _), ((decide ((r_2.toNat : Int) = (11 : Int))), ()), ⟨rfl, rfl, trivial⟩, h, hH⟩
     ·
      replace h := Sh.ite_neg hb h
      refine uC ?_
      refine uA 2 rfl trivial ?_
      refine WpOps.nil ?_
      refine uF rfl (fun hb => ?_) (fun hb => ?_)
      ·
       replace h := Sh.ite_pos hb h
       refine uI ?_
       exact ⟨_, (uD _), ((decide ((r_2.toNat : Int) = (12 : Int))), ()), ⟨rfl, rfl, trivial⟩, h, hH⟩
      ·
       replace h := Sh.ite_neg hb h
       refine uJ ?_
       refine uA 2 rfl trivial ?_
       refine WpOps.nil ?_
       exact ⟨_, (uD _), ((decide ((r_2.toNat : Int) = (13 : Int))), ()), ⟨rfl, rfl, trivial⟩, h, hH⟩
  ·
   rintro ⟨t7_1, _⟩ env H' ⟨h, hH⟩
   try dsimp only at h
   refine uF rfl (fun hb => ?_) (fun hb => ?_)
   ·
    replace h := Sh.ite_pos hb h
    refine uC ?_
    refine uA 3 rfl trivial ?_
    refine uB (v := (iA r_1.at_)) rfl rfl (Exact.load rfl rfl (hH.cell (i := 0) rfl) rfl rfl) ?_
    obtain ⟨c_1, h⟩ := Sh.chk_some h
    refine uA 3 rfl c_1 ?_
    refine uE rfl rfl (uQ (cs' := (cGPptok_reader (GPptok_reader.mk r_1.s (r_1.at_ + (1 : Int))))) (v := (iA (r_1.at_ + (1 : Int)))) rfl rfl hH (i := 0) rfl rfl rfl rfl rfl rfl rfl fun H' hH => ?_)
    refine WpOps.nil ?_
    refine uC ?_
    refine uA 1 rfl trivial ?_
    refine WpOps.nil ?_
    obtain rfl := Sh.some_inj h
    refine WpC.ret ?_
    exact uH rfl rfl ⟨rfl, hH⟩
   ·
    replace h := Sh.ite_neg hb h
    refine uI ?_
    exact ⟨_, (uD _), (r_1, ()), ⟨rfl, trivial⟩, h, hH⟩
 ·
  rintro ⟨r_3, _⟩ env H' ⟨h, hH⟩
  try dsimp only at h
  refine WpC.seq ?_
  refine uC ?_
  obtain ⟨r_4, hr_2, h⟩ := Sh.bind_some h
  refine uA 1 rfl trivial ?_
  refine uB (v := (bA r_4)) rfl rfl (Exact.call rfl rfl rfl (w_pptok_reader_has (hH.cell (i := 0) rfl) hr_2)) ?_
  refine WpOps.nil ?_
  refine uF rfl (fun hb => ?_) (fun hb => ?_)
  ·
   replace h := Sh.ite_pos hb h
   refine vO [.I, .I, .I, .S, .I, .I, .I, .S] [0, 1, 2, 3, 4, 5, 6, 7, 8, 9, 10] (by kernel_rfl) (by kernel_rfl) ?_
   refine uK 3 rfl trivial ?_
   refine uT (v := (sA r_3.s)) rfl rfl rfl rfl (Exact.load rfl rfl (hH.cell (i := 0) rfl) rfl rfl) ?_
   refine uK 3 rfl trivial ?_
   refine uT (v := (iA r_3.at_)) rfl rfl rfl rfl (Exact.load rfl rfl (hH.cell (i := 0) rfl) rfl rfl) ?_
   obtain ⟨c_2, h⟩ := Sh.chk_some h
   refine uK 1 rfl (show 0 ≤ r_3.at_ ∧ True ∧ (r_3.at_).toNat ≤ r_3.s.length from ⟨(by omega), trivial, (by omega)⟩) ?_
   refine uV (v := (iA (Lib.indexByte (r_3.s.drop (r_3.at_).toNat) (10 : UInt8)))) rfl rfl rfl rfl (fun _ => Exact.call rfl rfl rfl (l_IndexByte (r_3.s.drop (r_3.at_).toNat) (10 : UInt8))) ?_
   refine uK 1 rfl trivial ?_
   refine WpPi.nil ?_
   refine vG (fun x : (Int) × (Unit) => [(0, (.lit (.pointer (some ⟨g_1, 0, none⟩)))), (3, (iA x.1))]) (fun x H' => (pptok_reader_blank_j3 r_3) x.1 = some r ∧ Holds H0 [.cell g_1 83 (cGPptok_reader r_3)] H') ?_ ?_
   ·
    refine uC ?_
    refine uA 2 rfl trivial ?_
    refine WpOps.nil ?_
    refine uF rfl (fun hb => ?_) (fun hb => ?_)
    ·
     replace h := Sh.ite_pos hb h
     refine wB [.I, .I, .I, .S, .I, .I, .I, .I, .S] [0, 1, 2, 3, 4, 5, 6, 7, 8, 9, 10] (by kernel_rfl) (by kernel_rfl) ?_
     refine uK 3 rfl trivial ?_
     refine uT (v := (sA r_3.s)) rfl rfl rfl rfl (Exact.load rfl rfl (hH.cell (i := 0) rfl) rfl rfl) ?_
     refine uK 4 rfl trivial ?_
     refine uT (v := (iA r_3.at_)) rfl rfl rfl rfl (Exact.load rfl rfl (hH.cell (i := 0) rfl) rfl rfl) ?_
     obtain ⟨c_3, h⟩ := Sh.chk_some h
     refine uK 2 rfl c_3 ?_
     refine WpPi.nil ?_
     exact ⟨_, (uD _), (((r_3.s.length : Int) - r_3.at_), ()), ⟨rfl, rfl, trivial⟩, h, hH⟩
    ·
     replace h := Sh.ite_neg hb h
     refine uI ?_
     exact ⟨_, (uD _), ((Lib.indexByte (r_3.s.drop (r_3.at_).toNat) (10 : UInt8)), ()), ⟨rfl, rfl, trivial⟩, h, hH⟩
   ·
    rintro ⟨end_1, _⟩ env H' ⟨h, hH⟩
    try dsimp only at h
    refine uC ?_
    refine uA 3 rfl trivial ?_
    refine uB (v := (iA r_3.at_)) rfl rfl (Exact.load rfl rfl (hH.cell (i := 0) rfl) rfl rfl) ?_
    obtain ⟨c_4, h⟩ := Sh.chk_some h
    refine uA 4 rfl c_4 ?_
    refine uE rfl rfl (uQ (cs' := (cGPptok_reader (GPptok_reader.mk r_3.s (r_3.at_ + end_1)))) (v := (iA (r_3.at_ + end_1))) rfl rfl hH (i := 0) rfl rfl rfl rfl rfl rfl rfl fun H' hH => ?_)
    refine WpOps.nil ?_
    refine uC ?_
    refine uA 1 rfl trivial ?_
    refine WpOps.nil ?_
    obtain rfl := Sh.some_inj h
    refine WpC.ret ?_
    exact uH rfl rfl ⟨rfl, hH⟩
  ·
   replace h := Sh.ite_neg hb h
   refine uI ?_
   refine ⟨_, uD _, ?_⟩
   refine WpC.seq ?_
   refine uC ?_
   obtain ⟨r_5, hr_3, h⟩ := Sh.bind_some h
   refine uA 1 rfl trivial ?_
   refine uB (v := (bA r_5)) rfl rfl (Exact.call rfl rfl rfl (w_pptok_reader_has (hH.cell (i := 0) rfl) hr_3)) ?_
   refine uA 1 rfl trivial ?_
   refine WpOps.nil ?_
   refine uF rfl (fun hb => ?_) (fun hb => ?_)
   ·
    replace h := Sh.ite_pos hb h
    refine uC ?_
    refine uA 1 rfl trivial ?_
    refine WpOps.nil ?_
    obtain rfl := Sh.some_inj h
    refine WpC.ret ?_
    exact uH rfl rfl ⟨rfl, hH⟩
   ·
    replace h := Sh.ite_neg hb h
    refine uI ?_
    refine ⟨_, uD _, ?_⟩
    refine vO [.I, .I, .I, .S, .I, .I, .I, .S, .I, .I, .S] [0, 1, 2, 3, 4, 5, 6, 7, 8, 9, 10, 11] (by kernel_rfl) (by kernel_rfl) ?_
    refine uK 3 rfl trivial ?_
    refine uT (v := (sA r_3.s)) rfl rfl rfl rfl (Exact.load rfl rfl (hH.cell (i := 0) rfl) rfl rfl) ?_
    refine uK 3 rfl trivial ?_
    refine uT (v := (iA r_3.at_)) rfl rfl rfl rfl (Exact.load rfl rfl (hH.cell (i := 0) rfl) rfl rfl) ?_
    obtain ⟨c_5, h⟩ := Sh.chk_some h
    obtain ⟨c_6, h⟩ := Sh.chk_some h
    refine uK 1 rfl c_5 ?_
    refine uK 1 rfl (show 0 ≤ (r_3.at_ + (2 : Int)) ∧ True ∧ ((r_3.at_ + (2 : Int))).toNat ≤ r_3.s.length from ⟨(by omega), trivial, (by omega)⟩) ?_
    obtain ⟨c_7, h⟩ := Sh.chk_some h
    refine uT (v := (iA (Lib.index (r_3.s.drop ((r_3.at_ + (2 : Int))).toNat) ([42, 47] : List UInt8)))) rfl rfl rfl rfl (Exact.call rfl rfl rfl (l_Index (r_3.s.drop ((r_3.at_ + (2 : Int))).toNat) ([42, 47] : List UInt8) (hG.up hH).i c_7)) ?_
    refine uK 1 rfl trivial ?_
    refine WpPi.nil ?_
    refine WpC.seq ?_
    refine uC ?_
    refine uA 2 rfl trivial ?_
    refine WpOps.nil ?_
    refine uF rfl (fun hb => ?_) (fun hb => ?_)
    ·
     replace h := Sh.ite_pos hb h
     refine uC ?_
     refine uA 1 rfl trivial ?_
     refine WpOps.nil ?_
     obtain rfl := Sh.some_inj h
     refine WpC.ret ?_
     exact uH rfl rfl ⟨rfl, hH⟩
    ·
     replace h := Sh.ite_neg hb h
     refine uI ?_
     refine ⟨_, uD _, ?_⟩
     refine uC ?_
     refine uA 3 rfl trivial ?_
     refine uB (v := (iA r_3.at_)) rfl rfl (Exact.load rfl rfl (hH.cell (i := 0) rfl) rfl rfl) ?_
     obtain ⟨c_8, h⟩ := Sh.chk_some h
     obtain ⟨c_9, h⟩ := Sh.chk_some h
     refine uA 5 rfl ⟨c_9, c_8⟩ ?_
     refine uE rfl rfl (uQ (cs' := (cGPptok_reader (GPptok_reader.mk r_3.s (r_3.at_ + ((Lib.index (r_3.s.drop ((r_3.at_ + (2 : Int))).toNat) ([42, 47] : List UInt8)) + (4 : Int)))))) (v := (iA (r_3.at_ + ((Lib.index (r_3.s.drop ((r_3.at_ + (2 : Int))).toNat) ([42, 47] : List UInt8)) + (4 : Int))))) rfl rfl hH (i := 0) rfl rfl rfl rfl rfl rfl rfl fun H' hH => ?_)
     refine WpOps.nil ?_
     refine uC ?_
     refine uA 1 rfl trivial ?_
     refine WpOps.nil ?_
     obtain rfl := Sh.some_inj h
     refine WpC.ret ?_
     exact uH rfl rfl ⟨rfl, hH⟩
theorem w_pptok_letter {H0 : Heap} {c_1 : UInt8} {r : Bool} (h : pptok_letter c_1 = some r) : TCall Tryz.prog 102 [(u8A c_1)] H0 (fun v H' => v = (bA r) ∧ H' = H0) noE := by
 refine id (TCall.body Tryz.func102 rfl rfl ?_)
 have hH : Holds H0 [] H0 := rfl
 refine uC ?_
 refine uA 1 rfl trivial ?_
 refine WpOps.nil ?_
 refine uC ?_
 refine uA 2 rfl trivial ?_
 obtain ⟨b_1, g_1, h⟩ := Sh.bind_some h
 refine uM 8 12 (bA b_1) rfl ?_ ?_
 ·
  refine uA 1 rfl trivial ?_
  refine uL 5 rfl (fun hb => ?_) (fun hb => ?_)
  ·
   replace g_1 := Sh.ite_pos hb g_1
   refine uA 7 rfl trivial ?_
   refine WpOps.nil ?_
   obtain rfl := Sh.some_inj g_1
   exact ⟨rfl, rfl⟩
  ·
   replace g_1 := Sh.ite_neg hb g_1
   refine uA 2 rfl trivial ?_
   obtain ⟨b_2, g_2, g_1⟩ := Sh.bind_some g_1
   refine uM 4 11 (bA b_2) rfl ?_ ?_
   ·
    refine uA 1 rfl trivial ?_
    refine uL 8 rfl (fun hb => ?_) (fun hb => ?_)
    ·
     replace g_2 := Sh.ite_pos hb g_2
     refine uA 3 rfl trivial ?_
     refine WpOps.nil ?_
     obtain rfl := Sh.some_inj g_2
     exact ⟨rfl, rfl⟩
    ·
     replace g_2 := Sh.ite_neg hb g_2
     refine uA 3 rfl trivial ?_
     refine WpOps.nil ?_
     obtain rfl := Sh.some_inj g_2
     exact ⟨rfl, rfl⟩
   intro env
   refine uA 1 rfl trivial ?_
   refine WpOps.nil ?_
   obtain rfl := Sh.some_inj g_1
   exact ⟨rfl, rfl⟩
 intro env
 obtain ⟨b_3, g_3, h⟩ := Sh.bind_some h
 refine uM 8 20 (bA b_3) rfl ?_ ?_
 ·
  refine uA 1 rfl trivial ?_
  refine uL 13 rfl (fun hb => ?_) (fun hb => ?_)
  ·
   replace g_3 := Sh.ite_pos hb g_3
   refine uA 7 rfl trivial ?_
   refine WpOps.nil ?_
   obtain rfl := Sh.some_inj g_3
   exact ⟨rfl, rfl⟩
  ·
   replace g_3 := Sh.ite_neg hb g_3
   refine uA 2 rfl trivial ?_
   obtain ⟨b_4, g_4, g_3⟩ := Sh.bind_some g_3
   refine uM 4 19 (bA b_4) rfl ?_ ?_
   ·
    refine uA 1 rfl trivial ?_
    refine uL 16 rfl (fun hb => ?_) (fun hb => ?_)
    ·
     replace g_4 := Sh.ite_pos hb g_4
     refine uA 3 rfl trivial ?_
     refine WpOps.nil ?_
     obtain rfl := Sh.some_inj g_4
     exact ⟨rfl, rfl⟩
    ·
     replace g_4 := Sh.ite_neg hb g_4
     refine uA 3 rfl trivial ?_
     refine WpOps.nil ?_
     obtain rfl := Sh.some_inj g_4
     exact ⟨rfl, rfl⟩
   intro env
   refine uA 1 rfl trivial ?_
   refine WpOps.nil ?_
   obtain rfl := Sh.some_inj g_3
   exact ⟨rfl, rfl⟩
 intro env
 refine uA 1 rfl trivial ?_
 refine WpOps.nil ?_
 obtain rfl := Sh.some_inj h
 refine WpC.ret ?_
 exact uH rfl rfl ⟨rfl, hH⟩
theorem w_pptok_digit {H0 : Heap} {c_1 : UInt8} {r : Bool} (h : pptok_digit c_1 = some r) : TCall Tryz.prog 103 [(u8A c_1)] H0 (fun v H' => v = (bA r) ∧ H' = H0) noE := by
 refine id (TCall.body Tryz.func103 rfl rfl ?_)
 have hH : Holds H0 [] H0 := rfl
 refine uC ?_
 refine uA 1 rfl trivial ?_
 refine WpOps.nil ?_
 refine uC ?_
 refine uA 2 rfl trivial ?_
 obtain ⟨b_1, g_1, h⟩ := Sh.bind_some h
 refine uM 4 8 (bA b_1) rfl ?_ ?_
 ·
  refine uA 1 rfl trivial ?_
  refine uL 5 rfl (fun hb => ?_) (fun hb => ?_)
  ·
   replace g_1 := Sh.ite_pos hb g_1
   refine uA 3 rfl trivial ?_
   refine WpOps.nil ?_
   obtain rfl := Sh.some_inj g_1
   exact ⟨rfl, rfl⟩
  ·
   replace g_1 := Sh.ite_neg hb g_1
   refine uA 3 rfl trivial ?_
   refine WpOps.nil ?_
   obtain rfl := Sh.some_inj g_1
   exact ⟨rfl, rfl⟩
 intro env
 refine uA 1 rfl trivial ?_
 refine WpOps.nil ?_
 obtain rfl := Sh.some_inj h
 refine WpC.ret ?_
 exact uH rfl rfl ⟨rfl, hH⟩
theorem w_pptok_reader_word {H : Heap} {g_1 : Nat} {r_1 : GPptok_reader} (hg : H g_1 = some (.cells 83 (cGPptok_reader r_1))) {r : Int} (h : pptok_reader_word r_1 = some r) : TCall Tryz.prog 65 [(.lit (.pointer (some ⟨g_1, 0, none⟩)))] H (fun v H' => v = (iA r) ∧ H' = H) noE := by
 obtain ⟨H0, hH⟩ : ∃ H0, Holds H0 [.cell g_1 83 (cGPptok_reader r_1)] H := ⟨_, vR hg⟩
 refine TCall.held hH (id (TCall.body Tryz.func65 rfl rfl ?_))
 refine uC ?_
 refine uA 1 rfl trivial ?_
 refine WpOps.nil ?_
 refine uC ?_
 refine uA 1 rfl trivial ?_
 refine WpOps.nil ?_
 refine wM (fun x : (Int) × (Unit) => [(3, (iA x.1))]) (fun x H' => pptok_reader_word_j1 x.1 = some r ∧ Holds H0 [.cell g_1 83 (cGPptok_reader r_1)] H') ?_ ?_
 ·
  obtain ⟨o_1, ho_1, hk_1⟩ := Sh.bind_some h
  refine uX (pptok_reader_word_b2 r_1) (fun (s : Int) (a : Unit) => [(0, (.lit (.pointer (some ⟨g_1, 0, none⟩)))), (3, (iA s))]) (fun (s : Int) (a : Unit) H' => Holds H0 [.cell g_1 83 (cGPptok_reader r_1)] H') o_1 (0 : Int) () ho_1 ⟨rfl, rfl, trivial⟩ hH ?_
  rintro n_1 _ st_1 env H' h hd_1 hH
  refine WpC.seq ?_
  refine uC ?_
  obtain ⟨r_2, hr_1, h⟩ := Sh.bind_some h
  refine uA 2 rfl trivial ?_
  refine uB (v := (u8A r_2)) rfl rfl (Exact.call rfl rfl rfl (w_pptok_reader_byte (hH.cell (i := 0) rfl) hr_1)) ?_
  obtain ⟨r_3, hr_2, h⟩ := Sh.bind_some h
  refine uB (v := (bA r_3)) rfl rfl (Exact.call rfl rfl rfl (w_pptok_letter hr_2)) ?_
  obtain ⟨b_1, g_2, h⟩ := Sh.bind_some h
  refine uM 10 17 (bA b_1) rfl ?_ ?_
  ·
   refine uA 1 rfl trivial ?_
   refine uL 8 rfl (fun hb => ?_) (fun hb => ?_)
   ·
    replace g_2 := Sh.ite_pos hb g_2
    refine uA 9 rfl trivial ?_
    refine WpOps.nil ?_
    obtain rfl := Sh.some_inj g_2
    exact ⟨rfl, rfl⟩
   ·
    replace g_2 := Sh.ite_neg hb g_2
    refine uA 2 rfl trivial ?_
    obtain ⟨b_2, g_3, g_2⟩ := Sh.bind_some g_2
    refine uM 6 16 (bA b_2) rfl ?_ ?_
    ·
     refine uA 1 rfl trivial ?_
     refine uL 11 rfl (fun hb => ?_) (fun hb => ?_)
     ·
      replace g_3 := Sh.ite_pos hb g_3
      obtain ⟨r_4, hr_3, g_3⟩ := Sh.bind_some g_3
      refine uA 2 rfl trivial ?_
      refine uB (v := (u8A r_4)) rfl rfl (Exact.call rfl rfl rfl (w_pptok_reader_byte (hH.cell (i := 0) rfl) hr_3)) ?_
      obtain ⟨r_5, hr_4, g_3⟩ := Sh.bind_some g_3
      refine uB (v := (bA r_5)) rfl rfl (Exact.call rfl rfl rfl (w_pptok_digit hr_4)) ?_
      refine uA 1 rfl trivial ?_
      refine WpOps.nil ?_
      obtain rfl := Sh.some_inj g_3
      exact ⟨rfl, rfl⟩
     ·
      replace g_3 := Sh.ite_neg hb g_3
      refine uA 5 rfl trivial ?_
      refine WpOps.nil ?_
      obtain rfl := Sh.some_inj g_3
      exact ⟨rfl, rfl⟩
    intro env
    refine uA 1 rfl trivial ?_
    refine WpOps.nil ?_
    obtain rfl := Sh.some_inj g_2
    exact ⟨rfl, rfl⟩
  intro env
  refine WpOps.nil ?_
  refine uF rfl (fun hb => ?_) (fun hb => ?_)
  ·
   replace h := Sh.ite_pos hb h
   refine uI ?_
   refine ⟨_, uD _, ?_⟩
   refine WpC.block ?_
   refine uJ ?_
   obtain ⟨c_1, h⟩ := Sh.chk_some h
   refine uA 3 rfl c_1 ?_
   refine WpOps.nil ?_
   obtain rfl := Sh.some_inj h
   exact ⟨_, (uD _), (n_1 + (1 : Int)), (), rfl, ⟨rfl, rfl, trivial⟩, hH⟩
  ·
   replace h := Sh.ite_neg hb h
   obtain rfl := Sh.some_inj h
   have e := hd_1 _ rfl
   subst e
   refine WpC.exit ?_
   exact ⟨(n_1, ()), ⟨rfl, trivial⟩, hk_1, hH⟩
 ·
  rintro ⟨n_2, _⟩ env H' ⟨h, hH⟩
  try dsimp only at h
  refine uC ?_
  refine uA 2 rfl trivial ?_
  refine WpOps.nil ?_
  obtain rfl := Sh.some_inj h
  refine WpC.ret ?_
  exact uH rfl rfl ⟨rfl, hH⟩
theorem w_pptok_reader_number {H : Heap} {g_1 : Nat} {r_1 : GPptok_reader} (hg : H g_1 = some (.cells 83 (cGPptok_reader r_1))) {r : Int} (h : pptok_reader_number r_1 = some r) : TCall Tryz.prog 66 [(.lit (.pointer (some ⟨g_1, 0, none⟩)))] H (fun v H' => v = (iA r) ∧ H' = H) noE := by
 obtain ⟨H0, hH⟩ : ∃ H0, Holds H0 [.cell g_1 83 (cGPptok_reader r_1)] H := ⟨_, vR hg⟩
 refine TCall.held hH (id (TCall.body Tryz.func66 rfl rfl ?_))
 refine uC ?_
 refine uA 1 rfl trivial ?_
 refine WpOps.nil ?_
 refine WpC.seq ?_
 refine uC ?_
 obtain ⟨r_2, hr_1, h⟩ := Sh.bind_some h
 refine uA 1 rfl trivial ?_
 refine uB (v := (u8A r_2)) rfl rfl (Exact.call rfl rfl rfl (w_pptok_reader_byte (hH.cell (i := 0) rfl) hr_1)) ?_
 obtain ⟨r_3, hr_2, h⟩ := Sh.bind_some h
 refine uB (v := (bA r_3)) rfl rfl (Exact.call rfl rfl rfl (w_pptok_digit hr_2)) ?_
 refine uA 1 rfl trivial ?_
 obtain ⟨b_1, g_2, h⟩ := Sh.bind_some h
 refine uM 11 20 (bA b_1) rfl ?_ ?_
 ·
  refine uA 1 rfl trivial ?_
  refine uL 10 rfl (fun hb => ?_) (fun hb => ?_)
  ·
   replace g_2 := Sh.ite_pos hb g_2
   obtain ⟨r_4, hr_3, g_2⟩ := Sh.bind_some g_2
   refine uA 1 rfl trivial ?_
   refine uB (v := (u8A r_4)) rfl rfl (Exact.call rfl rfl rfl (w_pptok_reader_byte (hH.cell (i := 0) rfl) hr_3)) ?_
   refine uA 1 rfl trivial ?_
   obtain ⟨b_2, g_3, g_2⟩ := Sh.bind_some g_2
   refine uM 6 19 (bA b_2) rfl ?_ ?_
   ·
    refine uA 1 rfl trivial ?_
    refine uL 14 rfl (fun hb => ?_) (fun hb => ?_)
    ·
     replace g_3 := Sh.ite_pos hb g_3
     refine uA 5 rfl trivial ?_
     refine WpOps.nil ?_
     obtain rfl := Sh.some_inj g_3
     exact ⟨rfl, rfl⟩
    ·
     replace g_3 := Sh.ite_neg hb g_3
     obtain ⟨r_5, hr_4, g_3⟩ := Sh.bind_some g_3
     refine uA 1 rfl trivial ?_
     refine uB (v := (u8A r_5)) rfl rfl (Exact.call rfl rfl rfl (w_pptok_reader_byte (hH.cell (i := 0) rfl) hr_4)) ?_
     obtain ⟨r_6, hr_5, g_3⟩ := Sh.bind_some g_3
     refine uB (v := (bA r_6)) rfl rfl (Exact.call rfl rfl rfl (w_pptok_digit hr_5)) ?_
     refine uA 2 rfl trivial ?_
     refine WpOps.nil ?_
     obtain rfl := Sh.some_inj g_3
     exact ⟨rfl, rfl⟩
   intro env
   refine uA 1 rfl trivial ?_
   refine WpOps.nil ?_
   obtain rfl := Sh.some_inj g_2
   exact ⟨rfl, rfl⟩
  ·
   replace g_2 := Sh.ite_neg hb g_2
   refine uA 10 rfl trivial ?_
   refine WpOps.nil ?_
   obtain rfl := Sh.some_inj g_2
   exact ⟨rfl, rfl⟩
 intro env
 refine WpOps.nil ?_
 refine uF rfl (fun hb => ?_) (fun hb => ?_)
 ·
  replace h := Sh.ite_pos hb h
  refine uC ?_
  refine uA 1 rfl trivial ?_
  refine WpOps.nil ?_
  obtain rfl := Sh.some_inj h
  refine WpC.ret ?_
  exact uH rfl rfl ⟨rfl, hH⟩
 ·
  replace h := Sh.ite_neg hb h
  refine uI ?_
  refine ⟨_, uD _, ?_⟩
  refine uC ?_
  refine uA 1 rfl trivial ?_
  refine WpOps.nil ?_
  refine WpC.block ?_
  obtain ⟨o_1, ho_1, hk_1⟩ := Sh.bind_some h
  refine uX (pptok_reader_number_b1 r_1) (fun (s : Int) (a : Unit) => [(0, (.lit (.pointer (some ⟨g_1, 0, none⟩)))), (3, (iA s))]) (fun (s : Int) (a : Unit) H' => Holds H0 [.cell g_1 83 (cGPptok_reader r_1)] H') o_1 (1 : Int) () ho_1 ⟨rfl, rfl, trivial⟩ hH ?_
  rintro n_1 _ st_1 env H' h hd_1 hH
  refine WpC.block ?_
  refine uC ?_
  obtain ⟨r_7, hr_6, h⟩ := Sh.bind_some h
  refine uA 2 rfl trivial ?_
  refine uB (v := (u8A r_7)) rfl rfl (Exact.call rfl rfl rfl (w_pptok_reader_byte (hH.cell (i := 0) rfl) hr_6)) ?_
  obtain ⟨c_1, h⟩ := Sh.chk_some h
  obtain ⟨r_8, hr_7, h⟩ := Sh.bind_some h
  refine uA 3 rfl c_1 ?_
  refine uB (v := (u8A r_8)) rfl rfl (Exact.call rfl rfl rfl (w_pptok_reader_byte (hH.cell (i := 0) rfl) hr_7)) ?_
  refine uA 2 rfl trivial ?_
  refine WpOps.nil ?_
  refine WpC.block ?_
  refine uC ?_
  refine uA 1 rfl trivial ?_
  refine uB (v := (iA (Lib.indexByte ([101, 69, 112, 80] : List UInt8) r_7))) rfl rfl (Exact.call rfl rfl rfl (l_IndexByte ([101, 69, 112, 80] : List UInt8) r_7)) ?_
  refine uA 1 rfl trivial ?_
  obtain ⟨b_3, g_4, h⟩ := Sh.bind_some h
  refine uM 8 40 (bA b_3) rfl ?_ ?_
  ·
   refine uA 1 rfl trivial ?_
   refine uL 33 rfl (fun hb => ?_) (fun hb => ?_)
   ·
    replace g_4 := Sh.ite_pos hb g_4
    refine uA 2 rfl trivial ?_
    obtain ⟨b_4, g_5, g_4⟩ := Sh.bind_some g_4
    refine uM 4 39 (bA b_4) rfl ?_ ?_
    ·
     refine uA 1 rfl trivial ?_
     refine uL 36 rfl (fun hb => ?_) (fun hb => ?_)
     ·
      replace g_5 := Sh.ite_pos hb g_5
      refine uA 3 rfl trivial ?_
      refine WpOps.nil ?_
      obtain rfl := Sh.some_inj g_5
      exact ⟨rfl, rfl⟩
     ·
      replace g_5 := Sh.ite_neg hb g_5
      refine uA 3 rfl trivial ?_
      refine WpOps.nil ?_
      obtain rfl := Sh.some_inj g_5
      exact ⟨rfl, rfl⟩
    intro env
    refine uA 1 rfl trivial ?_
    refine WpOps.nil ?_
    obtain rfl := Sh.some_inj g_4
    exact ⟨rfl, rfl⟩
   ·
    replace g_4 := Sh.ite_neg hb g_4
    refine uA 7 rfl trivial ?_
    refine WpOps.nil ?_
    obtain rfl := Sh.some_inj g_4
    exact ⟨rfl, rfl⟩
  intro env
  refine uA 1 rfl trivial ?_
  refine WpOps.nil ?_
  refine uF rfl (fun hb => ?_) (fun hb => ?_)
  ·
   replace h := Sh.ite_pos hb h
   refine uJ ?_
   obtain ⟨c_2, h⟩ := Sh.chk_some h
   refine uA 3 rfl c_2 ?_
   refine WpOps.nil ?_
   obtain rfl := Sh.some_inj h
   exact ⟨_, (uD _), (n_1 + (2 : Int)), (), rfl, ⟨rfl, rfl, trivial⟩, hH⟩
  ·
   replace h := Sh.ite_neg hb h
   refine uC ?_
   obtain ⟨r_9, hr_8, h⟩ := Sh.bind_some h
   refine uA 1 rfl trivial ?_
   refine uB (v := (bA r_9)) rfl rfl (Exact.call rfl rfl rfl (w_pptok_letter hr_8)) ?_
   obtain ⟨b_5, g_6, h⟩ := Sh.bind_some h
   refine uM 4 49 (bA b_5) rfl ?_ ?_
   ·
    refine uA 1 rfl trivial ?_
    refine uL 46 rfl (fun hb => ?_) (fun hb => ?_)
    ·
     replace g_6 := Sh.ite_pos hb g_6
     refine uA 3 rfl trivial ?_
     refine WpOps.nil ?_
     obtain rfl := Sh.some_inj g_6
     exact ⟨rfl, rfl⟩
    ·
     replace g_6 := Sh.ite_neg hb g_6
     obtain ⟨r_10, hr_9, g_6⟩ := Sh.bind_some g_6
     refine uA 1 rfl trivial ?_
     refine uB (v := (bA r_10)) rfl rfl (Exact.call rfl rfl rfl (w_pptok_digit hr_9)) ?_
     refine uA 1 rfl trivial ?_
     refine WpOps.nil ?_
     obtain rfl := Sh.some_inj g_6
     exact ⟨rfl, rfl⟩
   intro env
   obtain ⟨b_6, g_7, h⟩ := Sh.bind_some h
   refine uM 4 53 (bA b_6) rfl ?_ ?_
   ·
    refine uA 1 rfl trivial ?_
    refine uL 50 rfl (fun hb => ?_) (fun hb => ?_)
    ·
     replace g_7 := Sh.ite_pos hb g_7
     refine uA 3 rfl trivial ?_
     refine WpOps.nil ?_
     obtain rfl := Sh.some_inj g_7
     exact ⟨rfl, rfl⟩
    ·
     replace g_7 := Sh.ite_neg hb g_7
     refine uA 3 rfl trivial ?_
     refine WpOps.nil ?_
     obtain rfl := Sh.some_inj g_7
     exact ⟨rfl, rfl⟩
   intro env
   refine uA 1 rfl trivial ?_
   refine WpOps.nil ?_
   refine uF rfl (fun hb => ?_) (fun hb => ?_)
   ·
    replace h := Sh.ite_pos hb h
    refine uJ ?_
    obtain ⟨c_3, h⟩ := Sh.chk_some h
    refine uA 3 rfl c_3 ?_
    refine WpOps.nil ?_
    obtain rfl := Sh.some_inj h
    exact ⟨_, (uD _), (n_1 + (1 : Int)), (), rfl, ⟨rfl, rfl, trivial⟩, hH⟩
   ·
    replace h := Sh.ite_neg hb h
    refine uC ?_
    refine uA 2 rfl trivial ?_
    refine WpOps.nil ?_
    obtain rfl := Sh.some_inj h
    have e := hd_1 _ rfl
    subst e
    have h := hk_1
    obtain rfl := Sh.some_inj h
    refine WpC.ret ?_
    exact uH rfl rfl ⟨rfl, hH⟩
theorem w_pptok_reader_quoted {H : Heap} {g_1 : Nat} {r_1 : GPptok_reader} {quote_1 : UInt8} (hg : H g_1 = some (.cells 83 (cGPptok_reader r_1))) {r : Int} (h : pptok_reader_quoted r_1 quote_1 = some r) : TCall Tryz.prog 67 [(.lit (.pointer (some ⟨g_1, 0, none⟩))), (u8A quote_1)] H (fun v H' => v = (iA r) ∧ H' = H) noE := by
 obtain ⟨H0, hH⟩ : ∃ H0, Holds H0 [.cell g_1 83 (cGPptok_reader r_1)] H := ⟨_, vR hg⟩
 refine TCall.held hH (id (TCall.body Tryz.func67 rfl rfl ?_))
 refine uC ?_
 refine uA 1 rfl trivial ?_
 refine WpOps.nil ?_
 refine WpC.seq ?_
 refine vO [.I, .I, .I, .S, .I, .I, .I, .S, .I, .I, .I, .I, .S] [0, 1, 2, 3, 4, 5, 6, 7, 8, 9, 10, 11, 12, 13, 14, 15] (by kernel_rfl) (by kernel_rfl) ?_
 refine uK 3 rfl trivial ?_
 refine uT (v := (iA r_1.at_)) rfl rfl rfl rfl (Exact.load rfl rfl (hH.cell (i := 0) rfl) rfl rfl) ?_
 refine uK 3 rfl trivial ?_
 refine uT (v := (sA r_1.s)) rfl rfl rfl rfl (Exact.load rfl rfl (hH.cell (i := 0) rfl) rfl rfl) ?_
 refine uK 2 rfl trivial ?_
 obtain ⟨b_1, g_2, h⟩ := Sh.bind_some h
 refine WpPi.cutB 6 21 (bA b_1) rfl ?_ ?_
 ·
  refine uK 1 rfl trivial ?_
  refine wK 16 rfl (fun hb => ?_) (fun hb => ?_)
  ·
   replace g_2 := Sh.ite_pos hb g_2
   refine uK 1 rfl trivial ?_
   refine WpPi.skip rfl rfl rfl ?_
   refine uK 3 rfl trivial ?_
   refine WpPi.nil ?_
   obtain rfl := Sh.some_inj g_2
   exact ⟨rfl, rfl⟩
  ·
   replace g_2 := Sh.ite_neg hb g_2
   obtain ⟨r_2, hr_1, g_2⟩ := Sh.bind_some g_2
   refine uK 1 rfl trivial ?_
   refine uT (v := (u8A r_2)) rfl rfl rfl rfl (Exact.call rfl rfl rfl (w_pptok_reader_byte (hH.cell (i := 0) rfl) hr_1)) ?_
   refine uK 3 rfl trivial ?_
   refine WpPi.nil ?_
   obtain rfl := Sh.some_inj g_2
   exact ⟨rfl, rfl⟩
 intro env
 refine WpPi.nil ?_
 refine uF rfl (fun hb => ?_) (fun hb => ?_)
 ·
  replace h := Sh.ite_pos hb h
  refine uC ?_
  refine uA 1 rfl trivial ?_
  refine WpOps.nil ?_
  obtain rfl := Sh.some_inj h
  refine WpC.ret ?_
  exact uH rfl rfl ⟨rfl, hH⟩
 ·
  replace h := Sh.ite_neg hb h
  refine uI ?_
  refine ⟨_, uD _, ?_⟩
  refine WpC.seq ?_
  refine uC ?_
  refine uA 1 rfl trivial ?_
  refine WpOps.nil ?_
  refine vA (fun x : (Unit) × (Unit) => []) (fun x H' => pptok_reader_quoted_j1 x.1 = some r ∧ Holds H0 [.cell g_1 83 (cGPptok_reader r_1)] H') ?_ ?_
  ·
   obtain ⟨o_1, ho_1, hk_1⟩ := Sh.bind_some h
   refine uX (pptok_reader_quoted_b2 r_1 quote_1) (fun (s : Int) (a : Unit) => [(0, (.lit (.pointer (some ⟨g_1, 0, none⟩)))), (1, (u8A quote_1)), (5, (iA s))]) (fun (s : Int) (a : Unit) H' => Holds H0 [.cell g_1 83 (cGPptok_reader r_1)] H') o_1 (1 : Int) () ho_1 ⟨rfl, rfl, rfl, trivial⟩ hH ?_
   rintro n_1 _ st_1 env H' h hd_1 hH
   refine WpC.seq ?_
   refine vO [.I, .I, .I, .S, .I, .I, .I, .I, .I, .S] [0, 1, 2, 3, 4, 5, 6, 7, 8, 9, 10, 11] (by kernel_rfl) (by kernel_rfl) ?_
   refine uK 3 rfl trivial ?_
   refine uT (v := (iA r_1.at_)) rfl rfl rfl rfl (Exact.load rfl rfl (hH.cell (i := 0) rfl) rfl rfl) ?_
   obtain ⟨c_1, h⟩ := Sh.chk_some h
   refine uK 5 rfl c_1 ?_
   refine uT (v := (sA r_1.s)) rfl rfl rfl rfl (Exact.load rfl rfl (hH.cell (i := 0) rfl) rfl rfl) ?_
   refine uK 2 rfl trivial ?_
   refine WpPi.nil ?_
   refine uF rfl (fun hb => ?_) (fun hb => ?_)
   ·
    replace h := Sh.ite_pos hb h
    refine uI ?_
    refine ⟨_, uD _, ?_⟩
    refine WpC.seq ?_
    refine WpC.block ?_
    refine uC ?_
    obtain ⟨r_3, hr_2, h⟩ := Sh.bind_some h
    refine uA 2 rfl trivial ?_
    refine uB (v := (u8A r_3)) rfl rfl (Exact.call rfl rfl rfl (w_pptok_reader_byte (hH.cell (i := 0) rfl) hr_2)) ?_
    refine WpOps.nil ?_
    refine WpC.block ?_
    refine uC ?_
    refine uA 3 rfl trivial ?_
    refine WpOps.nil ?_
    refine uF rfl (fun hb => ?_) (fun hb => ?_)
    ·
     replace h := Sh.ite_pos hb h
     refine WpC.seq ?_
     refine uC ?_
     refine uA 2 rfl trivial ?_
     obtain ⟨b_2, g_3, h⟩ := Sh.bind_some h
     refine uM 4 47 (bA b_2) rfl ?_ ?_
     ·
      refine uA 1 rfl trivial ?_
      refine uL 44 rfl (fun hb => ?_) (fun hb => ?_)
      ·
       replace g_3 := Sh.ite_pos hb g_3
       refine uA 3 rfl trivial ?_
       refine WpOps.nil ?_
       obtain rfl := Sh.some_inj g_3
       exact ⟨rfl, rfl⟩
      ·
       replace g_3 := Sh.ite_neg hb g_3
       refine uA 3 rfl trivial ?_
       refine WpOps.nil ?_
       obtain rfl := Sh.some_inj g_3
       exact ⟨rfl, rfl⟩
     intro env
     refine WpOps.nil ?_
     refine uF rfl (fun hb => ?_) (fun hb => ?_)
     ·
      replace h := Sh.ite_pos hb h
      refine uC ?_
      refine uA 1 rfl trivial ?_
      refine WpOps.nil ?_
      obtain rfl := Sh.some_inj h
      have e := hd_1 _ rfl
      subst e
      have h := hk_1
      obtain rfl := Sh.some_inj h
      refine WpC.ret ?_
      exact uH rfl rfl ⟨rfl, hH⟩
     ·
      replace h := Sh.ite_neg hb h
      refine uI ?_
      refine ⟨_, uD _, ?_⟩
      refine uC ?_
      obtain ⟨c_2, h⟩ := Sh.chk_some h
      refine uA 3 rfl c_2 ?_
      refine WpOps.nil ?_
      obtain rfl := Sh.some_inj h
      have e := hd_1 _ rfl
      subst e
      have h := hk_1
      obtain rfl := Sh.some_inj h
      refine WpC.ret ?_
      exact uH rfl rfl ⟨rfl, hH⟩
    ·
     replace h := Sh.ite_neg hb h
     refine uC ?_
     refine uA 2 rfl trivial ?_
     refine WpOps.nil ?_
     refine uF rfl (fun hb => ?_) (fun hb => ?_)
     ·
      replace h := Sh.ite_pos hb h
      refine uC ?_
      refine uA 1 rfl trivial ?_
      refine WpOps.nil ?_
      obtain rfl := Sh.some_inj h
      have e := hd_1 _ rfl
      subst e
      have h := hk_1
      obtain rfl := Sh.some_inj h
      refine WpC.ret ?_
      exact uH rfl rfl ⟨rfl, hH⟩
     ·
      replace h := Sh.ite_neg hb h
      refine uC ?_
      refine uA 2 rfl trivial ?_
      refine WpOps.nil ?_
      refine uF rfl (fun hb => ?_) (fun hb => ?_)
      ·
       replace h := Sh.ite_pos hb h
       refine uC ?_
       obtain ⟨c_3, h⟩ := Sh.chk_some h
       refine uA 3 rfl c_3 ?_
       refine WpOps.nil ?_
       refine vO [.I, .I, .S, .I, .I, .I, .I, .I, .S, .I, .I, .I, .I, .I, .S] [0, 1, 2, 3, 4, 5, 6, 7, 8, 9, 10, 11, 12, 13, 14, 15, 16, 17] (by kernel_rfl) (by kernel_rfl) ?_
       obtain ⟨r_4, hr_3, h⟩ := Sh.bind_some h
       refine uK 2 rfl trivial ?_
       refine uT (v := (u8A r_4)) rfl rfl rfl rfl (Exact.call rfl rfl rfl (w_pptok_reader_byte (hH.cell (i := 0) rfl) hr_3)) ?_
       refine uK 1 rfl trivial ?_
       obtain ⟨b_3, g_4, h⟩ := Sh.bind_some h
       refine WpPi.cutB 14 73 (bA b_3) rfl ?_ ?_
       ·
        refine uK 1 rfl trivial ?_
        refine wK 60 rfl (fun hb => ?_) (fun hb => ?_)
        ·
         replace g_4 := Sh.ite_pos hb g_4
         refine uK 3 rfl trivial ?_
         refine uT (v := (iA r_1.at_)) rfl rfl rfl rfl (Exact.load rfl rfl (hH.cell (i := 0) rfl) rfl rfl) ?_
         obtain ⟨c_4, g_4⟩ := Sh.chk_some g_4
         refine uK 5 rfl c_4 ?_
         refine uT (v := (sA r_1.s)) rfl rfl rfl rfl (Exact.load rfl rfl (hH.cell (i := 0) rfl) rfl rfl) ?_
         refine uK 3 rfl trivial ?_
         refine WpPi.nil ?_
         obtain rfl := Sh.some_inj g_4
         exact ⟨rfl, rfl⟩
        ·
         replace g_4 := Sh.ite_neg hb g_4
         refine uK 3 rfl trivial ?_
         refine WpPi.skip rfl rfl rfl ?_
         refine uK 5 rfl trivial ?_
         refine WpPi.skip rfl rfl rfl ?_
         refine uK 3 rfl trivial ?_
         refine WpPi.nil ?_
         obtain rfl := Sh.some_inj g_4
         exact ⟨rfl, rfl⟩
       intro env
       refine WpPi.nil ?_
       refine uF rfl (fun hb => ?_) (fun hb => ?_)
       ·
        replace h := Sh.ite_pos hb h
        refine uC ?_
        refine uA 1 rfl trivial ?_
        refine WpOps.nil ?_
        obtain rfl := Sh.some_inj h
        have e := hd_1 _ rfl
        subst e
        have h := hk_1
        obtain rfl := Sh.some_inj h
        refine WpC.ret ?_
        exact uH rfl rfl ⟨rfl, hH⟩
       ·
        replace h := Sh.ite_neg hb h
        refine uI ?_
        refine ⟨_, uD _, ?_⟩
        refine uJ ?_
        obtain ⟨c_5, h⟩ := Sh.chk_some h
        refine uA 3 rfl c_5 ?_
        refine WpOps.nil ?_
        obtain rfl := Sh.some_inj h
        exact ⟨_, (uD _), ((n_1 + (1 : Int)) + (1 : Int)), (), rfl, ⟨rfl, rfl, rfl, trivial⟩, hH⟩
      ·
       replace h := Sh.ite_neg hb h
       refine uI ?_
       refine ⟨_, uD _, ?_⟩
       refine uJ ?_
       obtain ⟨c_6, h⟩ := Sh.chk_some h
       refine uA 3 rfl c_6 ?_
       refine WpOps.nil ?_
       obtain rfl := Sh.some_inj h
       exact ⟨_, (uD _), (n_1 + (1 : Int)), (), rfl, ⟨rfl, rfl, rfl, trivial⟩, hH⟩
   ·
    replace h := Sh.ite_neg hb h
    obtain rfl := Sh.some_inj h
    have e := hd_1 _ rfl
    subst e
    refine WpC.exit ?_
    exact ⟨((), ()), trivial, hk_1, hH⟩
  ·
   rintro ⟨_, _⟩ env H' ⟨h, hH⟩
   try dsimp only at h
   refine ⟨_, uD _, ?_⟩
   refine uC ?_
   refine uA 1 rfl trivial ?_
   refine WpOps.nil ?_
   obtain rfl := Sh.some_inj h
   refine WpC.ret ?_
   exact uH rfl rfl ⟨rfl, hH⟩
theorem w_pptok_reader_sign {H : Heap} (hG : Glob H) {g_1 : Nat} {r_1 : GPptok_reader} (hg : H g_1 = some (.cells 83 (cGPptok_reader r_1))) {r : Int} (h : pptok_reader_sign r_1 = some r) : TCall Tryz.prog 68 [(.lit (.pointer (some ⟨g_1, 0, none⟩)))] H (fun v H' => v = (iA r) ∧ H' = H) noE := by
 obtain ⟨H0, hH⟩ : ∃ H0, Holds H0 [.cell g_1 83 (cGPptok_reader r_1)] H := ⟨_, vR hg⟩
 have hG := hG.held hH
 refine TCall.held hH (id (TCall.body Tryz.func68 rfl rfl ?_))
 refine uC ?_
 refine uA 1 rfl trivial ?_
 refine WpOps.nil ?_
 refine WpC.scope ?_
 refine uC ?_
 refine uA 1 rfl trivial ?_
 refine WpOps.nil ?_
 refine WpC.seq (WpC.label ?_)
 refine WpC.seq ?_
 refine uC ?_
 refine uB (v := (AV.agg (List.map (fun y => (sA y)) signs))) rfl rfl (Exact.load rfl rfl (hG.up hH).signs rfl (by kernel_rfl)) ?_
 refine uA 1 rfl trivial ?_
 refine WpOps.nil ?_
 refine vA (fun x : (Int) × (Unit) => [(3, (iA x.1))]) (fun x H' => pptok_reader_sign_j1 x.1 = some r ∧ Holds H0 [.cell g_1 83 (cGPptok_reader r_1)] H') ?_ ?_
 ·
  obtain ⟨o_1, ho_1, hk_1⟩ := Sh.bind_some h
  refine uX (pptok_reader_sign_b2 r_1) (fun (s : Int × Int) (a : Unit) => [(0, (.lit (.pointer (some ⟨g_1, 0, none⟩)))), (3, (iA s.1)), (6, (AV.agg (List.map (fun y => (sA y)) signs))), (7, (iA s.2))]) (fun (s : Int × Int) (a : Unit) H' => Holds H0 [.cell g_1 83 (cGPptok_reader r_1)] H') o_1 ((0 : Int), (0 : Int)) () ho_1 ⟨rfl, rfl, rfl, rfl, trivial⟩ hH ?_
  rintro ⟨n_1, t7_1⟩ _ st_1 env H' h hd_1 hH
  refine uC ?_
  refine uA 1 rfl trivial ?_
  refine WpOps.nil ?_
  refine WpC.seq ?_
  refine uF rfl (fun hb => ?_) (fun hb => ?_)
  ·
   replace h := Sh.ite_pos hb h
   refine uI ?_
   refine ⟨_, uD _, ?_⟩
   refine WpC.seq ?_
   refine WpC.block ?_
   refine uC ?_
   obtain ⟨y_1, hy_1, h⟩ := Sh.bind_some h
   refine uB (v := (sA y_1)) rfl rfl (Exact.ixa (fun y => (sA y)) hy_1 rfl rfl rfl rfl rfl (by kernel_rfl) rfl) ?_
   refine uA 1 rfl trivial ?_
   refine WpOps.nil ?_
   refine WpC.seq ?_
   refine uC ?_
   refine uA 4 rfl trivial ?_
   obtain ⟨b_1, g_2, h⟩ := Sh.bind_some h
   refine uM 6 19 (bA b_1) rfl ?_ ?_
   ·
    refine uA 1 rfl trivial ?_
    refine uL 14 rfl (fun hb => ?_) (fun hb => ?_)
    ·
     replace g_2 := Sh.ite_pos hb g_2
     refine uA 5 rfl trivial ?_
     refine WpOps.nil ?_
     obtain rfl := Sh.some_inj g_2
     exact ⟨rfl, rfl⟩
    ·
     replace g_2 := Sh.ite_neg hb g_2
     obtain ⟨r_2, hr_1, g_2⟩ := Sh.bind_some g_2
     refine uA 2 rfl trivial ?_
     refine uB (v := (bA r_2)) rfl rfl (Exact.call rfl rfl rfl (w_pptok_reader_has (hH.cell (i := 0) rfl) hr_1)) ?_
     refine uA 2 rfl trivial ?_
     refine WpOps.nil ?_
     obtain rfl := Sh.some_inj g_2
     exact ⟨rfl, rfl⟩
   intro env
   refine WpOps.nil ?_
   refine uF rfl (fun hb => ?_) (fun hb => ?_)
   ·
    replace h := Sh.ite_pos hb h
    refine WpC.exitD ?_
    refine ⟨_, uD _, ?_⟩
    refine uJ ?_
    obtain ⟨c_1, h⟩ := Sh.chk_some h
    refine uA 2 rfl c_1 ?_
    refine WpOps.nil ?_
    obtain rfl := Sh.some_inj h
    exact ⟨_, (uD _), (n_1, (t7_1 + (1 : Int))), (), rfl, ⟨rfl, rfl, rfl, rfl, trivial⟩, hH⟩
   ·
    replace h := Sh.ite_neg hb h
    refine uI ?_
    refine ⟨_, uD _, ?_⟩
    refine uJ ?_
    refine uA 3 rfl trivial ?_
    refine WpOps.nil ?_
    refine ⟨_, uD _, ?_⟩
    refine uJ ?_
    obtain ⟨c_2, h⟩ := Sh.chk_some h
    refine uA 2 rfl c_2 ?_
    refine WpOps.nil ?_
    obtain rfl := Sh.some_inj h
    exact ⟨_, (uD _), ((y_1.length : Int), (t7_1 + (1 : Int))), (), rfl, ⟨rfl, rfl, rfl, rfl, trivial⟩, hH⟩
  ·
   replace h := Sh.ite_neg hb h
   obtain rfl := Sh.some_inj h
   have e := hd_1 _ rfl
   subst e
   refine WpC.exit ?_
   exact ⟨(n_1, ()), ⟨rfl, trivial⟩, hk_1, hH⟩
 ·
  rintro ⟨n_2, _⟩ env H' ⟨h, hH⟩
  try dsimp only at h
  refine ⟨_, uD _, ?_⟩
  refine uC ?_
  refine uA 2 rfl trivial ?_
  refine WpOps.nil ?_
  obtain rfl := Sh.some_inj h
  refine WpC.ret ?_
  exact uH rfl rfl ⟨rfl, hH⟩
theorem w_pptok_reader_next {H : Heap} (hG : Glob H) {g_1 : Nat} {r_1 : GPptok_reader} (hg : H g_1 = some (.cells 83 (cGPptok_reader r_1))) {r : Int × Int} (h : pptok_reader_next r_1 = some r) : TCall Tryz.prog 31 [(.lit (.pointer (some ⟨g_1, 0, none⟩)))] H (fun v H' => v = (.tup [(iA r.1), (iA r.2)]) ∧ H' = H) noE := by
 obtain ⟨H0, hH⟩ : ∃ H0, Holds H0 [.cell g_1 83 (cGPptok_reader r_1)] H := ⟨_, vR hg⟩
 have hG := hG.held hH
 refine TCall.held hH (id (TCall.body Tryz.func31 rfl rfl ?_))
 refine uC ?_
 refine uA 2 rfl trivial ?_
 refine WpOps.nil ?_
 refine WpC.seq ?_
 refine uC ?_
 obtain ⟨r_2, hr_1, h⟩ := Sh.bind_some h
 refine uA 1 rfl trivial ?_
 refine uB (v := (bA r_2)) rfl rfl (Exact.call rfl rfl rfl (w_pptok_reader_has (hH.cell (i := 0) rfl) hr_1)) ?_
 refine WpOps.nil ?_
 refine uF rfl (fun hb => ?_) (fun hb => ?_)
 ·
  replace h := Sh.ite_pos hb h
  refine uC ?_
  refine uA 2 rfl trivial ?_
  refine WpOps.nil ?_
  obtain rfl := Sh.some_inj h
  refine WpC.ret ?_
  exact uU rfl rfl rfl ⟨rfl, hH⟩
 ·
  replace h := Sh.ite_neg hb h
  refine uI ?_
  refine ⟨_, uD _, ?_⟩
  refine WpC.seq ?_
  refine uC ?_
  obtain ⟨r_3, hr_2, h⟩ := Sh.bind_some h
  refine uA 1 rfl trivial ?_
  refine uB (v := (iA r_3)) rfl rfl (Exact.call rfl rfl rfl (w_pptok_reader_word (hH.cell (i := 0) rfl) hr_2)) ?_
  refine uA 1 rfl trivial ?_
  refine WpOps.nil ?_
  refine uC ?_
  refine uA 2 rfl trivial ?_
  refine WpOps.nil ?_
  refine uF rfl (fun hb => ?_) (fun hb => ?_)
  ·
   replace h := Sh.ite_pos hb h
   refine uC ?_
   refine uA 3 rfl trivial ?_
   refine WpOps.nil ?_
   obtain rfl := Sh.some_inj h
   refine WpC.ret ?_
   exact uU rfl rfl rfl ⟨rfl, hH⟩
  ·
   replace h := Sh.ite_neg hb h
   refine uI ?_
   refine ⟨_, uD _, ?_⟩
   refine WpC.seq ?_
   refine uC ?_
   obtain ⟨r_4, hr_3, h⟩ := Sh.bind_some h
   refine uA 1 rfl trivial ?_
   refine uB (v := (iA r_4)) rfl rfl (Exact.call rfl rfl rfl (w_pptok_reader_number (hH.cell (i := 0) rfl) hr_3)) ?_
   refine uA 1 rfl trivial ?_
   refine WpOps.nil ?_
   refine uC ?_
   refine uA 2 rfl trivial ?_
   refine WpOps.nil ?_
   refine uF rfl (fun hb => ?_) (fun hb => ?_)
   ·
    replace h := Sh.ite_pos hb h
    refine uC ?_
    refine uA 3 rfl trivial ?_
    refine WpOps.nil ?_
    obtain rfl := Sh.some_inj h
    refine WpC.ret ?_
    exact uU rfl rfl rfl ⟨rfl, hH⟩
   ·
    replace h := Sh.ite_neg hb h
    refine uI ?_
    refine ⟨_, uD _, ?_⟩
    refine WpC.seq ?_
    refine uC ?_
    obtain ⟨r_5, hr_4, h⟩ := Sh.bind_some h
    refine uA 1 rfl trivial ?_
    refine uB (v := (iA r_5)) rfl rfl (Exact.call rfl rfl rfl (w_pptok_reader_quoted (hH.cell (i := 0) rfl) hr_4)) ?_
    refine uA 1 rfl trivial ?_
    refine WpOps.nil ?_
    refine uC ?_
    refine uA 2 rfl trivial ?_
    refine WpOps.nil ?_
    refine uF rfl (fun hb => ?_) (fun hb => ?_)
    ·
     replace h := Sh.ite_pos hb h
     refine uC ?_
     refine uA 3 rfl trivial ?_
     refine WpOps.nil ?_
     obtain rfl := Sh.some_inj h
     refine WpC.ret ?_
     exact uU rfl rfl rfl ⟨rfl, hH⟩
    ·
     replace h := Sh.ite_neg hb h
     refine uI ?_
     refine ⟨_, uD _, ?_⟩
     refine WpC.seq ?_
     refine uC ?_
     obtain ⟨r_6, hr_5, h⟩ := Sh.bind_some h
     refine uA 1 rfl trivial ?_
     refine uB (v := (iA r_6)) rfl rfl (Exact.call rfl rfl rfl (w_pptok_reader_quoted (hH.cell (i := 0) rfl) hr_5)) ?_
     refine uA 1 rfl trivial ?_
     refine WpOps.nil ?_
     refine uC ?_
     refine uA 2 rfl trivial ?_
     refine WpOps.nil ?_
     refine uF rfl (fun hb => ?_) (fun hb => ?_)
     ·
      replace h := Sh.ite_pos hb h
      refine uC ?_
      refine uA 3 rfl trivial ?_
      refine WpOps.nil ?_
      obtain rfl := Sh.some_inj h
      refine WpC.ret ?_
      exact uU rfl rfl rfl ⟨rfl, hH⟩
     ·
      replace h := Sh.ite_neg hb h
      refine uI ?_
      refine ⟨_, uD _, ?_⟩
      refine WpC.seq ?_
      refine uC ?_
      obtain ⟨r_7, hr_6, h⟩ := Sh.bind_some h
      refine uA 1 rfl trivial ?_
      refine uB (v := (iA r_7)) rfl rfl (Exact.call rfl rfl rfl (w_pptok_reader_sign (hG.up hH) (hH.cell (i := 0) rfl) hr_6)) ?_
      refine uA 1 rfl trivial ?_
      refine WpOps.nil ?_
      refine uC ?_
      refine uA 2 rfl trivial ?_
      refine WpOps.nil ?_
      refine uF rfl (fun hb => ?_) (fun hb => ?_)
      ·
       replace h := Sh.ite_pos hb h
       refine uC ?_
       refine uA 3 rfl trivial ?_
       refine WpOps.nil ?_
       obtain rfl := Sh.some_inj h
       refine WpC.ret ?_
       exact uU rfl rfl rfl ⟨rfl, hH⟩
      ·
       replace h := Sh.ite_neg hb h
       refine uI ?_
       refine ⟨_, uD _, ?_⟩
       refine uC ?_
       refine uA 2 rfl trivial ?_
       refine WpOps.nil ?_
       obtain rfl := Sh.some_inj h
       refine WpC.ret ?_
       exact uU rfl rfl rfl ⟨rfl, hH⟩
theorem w_pptok_Tokens {H0 : Heap} (hG : Glob H0) {file_1 : Int} {text_1 : List UInt8} {r : List GTok} (h : pptok_Tokens file_1 text_1 = some r) : TCall Tryz.prog 16 [(iA file_1), (sA text_1)] H0 (fun v H' => v = (AV.rows 6 (List.map cGTok r)) ∧ H' = H0) noE := by
 refine id (TCall.body Tryz.func16 rfl rfl ?_)
 have hH : Holds H0 [] H0 := rfl
 refine uC ?_
 refine uA 1 rfl trivial ?_
 refine WpOps.nil ?_
 refine uC ?_
 obtain ⟨r_1, hr_1, h⟩ := Sh.bind_some h
 refine uA 1 rfl trivial ?_
 refine uB (v := (AV.rows 2 (List.map cGChar r_1))) rfl rfl (Exact.call rfl rfl rfl (w_splice_Join hr_1)) ?_
 refine uA 1 rfl trivial ?_
 refine WpOps.nil ?_
 refine uC ?_
 obtain ⟨r_2, hr_2, h⟩ := Sh.bind_some h
 refine uA 1 rfl trivial ?_
 refine uB (v := (sA r_2)) rfl rfl (Exact.call rfl rfl rfl (w_splice_Text hr_2)) ?_
 refine uA 1 rfl trivial ?_
 refine uE rfl rfl (vF (v := (AV.agg (cGPptok_reader (GPptok_reader.mk r_2 (0 : Int))))) rfl rfl hH fun g_1 H' hH => ?_)
 refine uA 1 rfl trivial ?_
 refine WpOps.nil ?_
 refine uC ?_
 refine uA 1 rfl trivial ?_
 have hH := hH.nil 50 6
 refine WpOps.nil ?_
 refine WpC.block ?_
 obtain ⟨o_1, ho_1, hk_1⟩ := Sh.bind_some h
 refine uX (pptok_Tokens_b1 file_1 r_1) (fun (s : List GTok × GPptok_reader) (a : (Option (Nat × Nat))) => [(0, (iA file_1)), (5, (AV.rows 2 (List.map cGChar r_1))), (6, (.lit (.pointer (some ⟨g_1, 0, none⟩)))), (7, (.own (List.map cGTok s.1).length a))]) (fun (s : List GTok × GPptok_reader) (a : (Option (Nat × Nat))) H' => Holds H0 [.own 50 6 a (List.map cGTok s.1), .cell g_1 83 (cGPptok_reader s.2)] H') o_1 (([] : List GTok), (GPptok_reader.mk r_2 (0 : Int))) none ho_1 ⟨rfl, rfl, rfl, rfl, trivial⟩ hH ?_
 rintro ⟨out_1, r_3⟩ p_1 st_1 env H' h hd_1 hH
 refine WpC.block ?_
 refine uC ?_
 refine uA 2 rfl trivial ?_
 refine uE rfl rfl (vC (z := cGTok (GTok.mk (0 : Int) ([] : List UInt8) (0 : Int) (0 : Int) (0 : Int) false)) rfl rfl hH fun g_2 H' hH => ?_)
 refine uE rfl rfl (uQ (cs' := (cGTok (GTok.mk (0 : Int) ([] : List UInt8) file_1 (0 : Int) (0 : Int) false))) (v := (AV.agg (cGTok (GTok.mk (0 : Int) ([] : List UInt8) file_1 (0 : Int) (0 : Int) false)))) rfl rfl hH (i := 0) rfl rfl rfl rfl rfl rfl rfl fun H' hH => ?_)
 refine WpOps.nil ?_
 refine wM (fun x : (GTok × GPptok_reader) × (Unit) => [(0, (iA file_1)), (5, (AV.rows 2 (List.map cGChar r_1))), (6, (.lit (.pointer (some ⟨g_1, 0, none⟩)))), (7, (.own (List.map cGTok out_1).length p_1)), (8, (.lit (.pointer (some ⟨g_2, 0, none⟩))))]) (fun x H' => (pptok_Tokens_j2 r_1 out_1) x.1 = some st_1 ∧ Holds H0 [.cell g_2 50 (cGTok x.1.1), .own 50 6 p_1 (List.map cGTok out_1), .cell g_1 83 (cGPptok_reader x.1.2)] H') ?_ ?_
 ·
  obtain ⟨o_2, ho_2, hk_2⟩ := Sh.bind_some h
  refine uX pptok_Tokens_b3 (fun (s : GTok × GPptok_reader) (a : Unit) => [(0, (iA file_1)), (5, (AV.rows 2 (List.map cGChar r_1))), (6, (.lit (.pointer (some ⟨g_1, 0, none⟩)))), (7, (.own (List.map cGTok out_1).length p_1)), (8, (.lit (.pointer (some ⟨g_2, 0, none⟩))))]) (fun (s : GTok × GPptok_reader) (a : Unit) H' => Holds H0 [.cell g_2 50 (cGTok s.1), .own 50 6 p_1 (List.map cGTok out_1), .cell g_1 83 (cGPptok_reader s.2)] H') o_2 ((GTok.mk (0 : Int) ([] : List UInt8) file_1 (0 : Int) (0 : Int) false), r_3) () ho_2 ⟨rfl, rfl, rfl, rfl, rfl, trivial⟩ hH ?_
  rintro ⟨t_1, r_4⟩ _ st_2 env H' h hd_2 hH
  refine WpC.seq ?_
  refine vO [.I, .I, .I, .S, .I, .I, .I, .S, .I, .I, .I, .I, .E] [0, 1, 2, 3, 4, 5, 6, 7, 8, 9, 10, 11, 12, 13] (by kernel_rfl) (by kernel_rfl) ?_
  refine uK 3 rfl trivial ?_
  refine uT (v := (iA r_4.at_)) rfl rfl rfl rfl (Exact.load rfl rfl (hH.cell (i := 2) rfl) rfl rfl) ?_
  refine uK 3 rfl trivial ?_
  refine uT (v := (sA r_4.s)) rfl rfl rfl rfl (Exact.load rfl rfl (hH.cell (i := 2) rfl) rfl rfl) ?_
  refine uK 2 rfl trivial ?_
  refine uK 1 rfl trivial ?_
  refine wK 29 rfl (fun hb => ?_) (fun hb => ?_)
  ·
   replace h := Sh.ite_pos hb h
   obtain ⟨r_5, hr_3, h⟩ := Sh.bind_some h
   refine uK 1 rfl trivial ?_
   refine vM rfl rfl rfl rfl (vH (v := (bA r_5.1)) rfl rfl rfl hH (i := 2) rfl (fun H1 hl hh => w_pptok_reader_blank (hG.le hl) hh hr_3) fun H' hH => ?_)
   refine uK 1 rfl trivial ?_
   refine WpPi.nil ?_
   refine uF rfl (fun hb => ?_) (fun hb => ?_)
   ·
    replace h := Sh.ite_pos hb h
    refine uI ?_
    refine ⟨_, uD _, ?_⟩
    refine WpC.block ?_
    refine uJ ?_
    refine uA 1 rfl trivial ?_
    refine uE rfl rfl (uQ (cs' := (cGTok (GTok.mk t_1.kind t_1.text t_1.file_ t_1.from_ t_1.to true))) (v := (bA true)) rfl rfl hH (i := 0) rfl rfl rfl rfl rfl rfl rfl fun H' hH => ?_)
    refine WpOps.nil ?_
    obtain rfl := Sh.some_inj h
    exact ⟨_, (uD _), ((GTok.mk t_1.kind t_1.text t_1.file_ t_1.from_ t_1.to true), r_5.2), (), rfl, ⟨rfl, rfl, rfl, rfl, rfl, trivial⟩, hH⟩
   ·
    replace h := Sh.ite_neg hb h
    obtain rfl := Sh.some_inj h
    have e := hd_2 _ rfl
    subst e
    refine WpC.exit ?_
    exact ⟨((t_1, r_5.2), ()), ⟨rfl, rfl, rfl, rfl, rfl, trivial⟩, hk_2, hH⟩
  ·
   replace h := Sh.ite_neg hb h
   refine uK 1 rfl trivial ?_
   refine WpPi.skip rfl rfl rfl ?_
   refine uK 1 rfl trivial ?_
   refine WpPi.nil ?_
   refine wI rfl ?_
   obtain rfl := Sh.some_inj h
   have e := hd_2 _ rfl
   subst e
   refine WpC.exit ?_
   exact ⟨((t_1, r_4), ()), ⟨rfl, rfl, rfl, rfl, rfl, trivial⟩, hk_2, hH⟩
 ·
  rintro ⟨⟨l_1, r_6⟩, _⟩ env H' ⟨h, hH⟩
  try dsimp only at h
  refine WpC.seq ?_
  refine vO [.I, .I, .I, .S, .I, .I, .I, .S] [0, 1, 2, 3, 4, 5, 6, 7, 8, 9] (by kernel_rfl) (by kernel_rfl) ?_
  refine uK 3 rfl trivial ?_
  refine uT (v := (iA r_6.at_)) rfl rfl rfl rfl (Exact.load rfl rfl (hH.cell (i := 2) rfl) rfl rfl) ?_
  refine uK 3 rfl trivial ?_
  refine uT (v := (sA r_6.s)) rfl rfl rfl rfl (Exact.load rfl rfl (hH.cell (i := 2) rfl) rfl rfl) ?_
  refine uK 2 rfl trivial ?_
  refine WpPi.nil ?_
  refine uF rfl (fun hb => ?_) (fun hb => ?_)
  ·
   replace h := Sh.ite_pos hb h
   refine uC ?_
   refine uA 2 rfl trivial ?_
   refine WpOps.nil ?_
   refine vJ (t := 4) (i := 1) hH rfl rfl (fun H' hH => ?_)
   refine uP (i := 0) hH rfl (fun H' hH => ?_)
   refine uP (i := 0) hH rfl (fun H' hH => ?_)
   obtain rfl := Sh.some_inj h
   have e := hd_1 _ rfl
   subst e
   have h := hk_1
   obtain rfl := Sh.some_inj h
   refine WpC.ret ?_
   exact uH rfl rfl ⟨rfl, hH⟩
  ·
   replace h := Sh.ite_neg hb h
   refine uI ?_
   refine ⟨_, uD _, ?_⟩
   refine uC ?_
   obtain ⟨r_7, hr_4, h⟩ := Sh.bind_some h
   refine uA 1 rfl trivial ?_
   refine uB (v := (.tup [(iA r_7.1), (iA r_7.2)])) rfl rfl (Exact.call rfl rfl rfl (w_pptok_reader_next (hG.up hH) (hH.cell (i := 2) rfl) hr_4)) ?_
   refine uA 5 rfl trivial ?_
   refine WpOps.nil ?_
   refine wJ (fun H => H g_1 = some (.cells 83 (cGPptok_reader r_6)) ∧ RowAt H 50 6 p_1 (List.map cGTok out_1) ∧ Glob H ∧ True) [.I, .I, .I, .I, .I, .I, .I, .I, .I, .I, .I, .I, .I, .I, .I, .I, .I, .E, .I, .E] [0, 1, 2, 3, 4, 5, 6, 7, 8, 9, 10, 11, 12, 13, 14, 15, 16, 17, 18, 19] (by kernel_rfl) (by kernel_rfl) ⟨hH.cell (i := 2) rfl, hH.rowAt (i := 1) rfl, hG.up hH, trivial⟩ ?_
   refine uK 4 rfl trivial ?_
   refine vD (v := (sA r_6.s)) rfl rfl rfl rfl (fun _ hi => Exact.load rfl rfl hi.1 rfl rfl) ?_
   refine uK 3 rfl trivial ?_
   refine vD (v := (iA r_6.at_)) rfl rfl rfl rfl (fun _ hi => Exact.load rfl rfl hi.1 rfl rfl) ?_
   refine uK 3 rfl trivial ?_
   refine vD (v := (iA r_6.at_)) rfl rfl rfl rfl (fun _ hi => Exact.load rfl rfl hi.1 rfl rfl) ?_
   obtain ⟨c_1, h⟩ := Sh.chk_some h
   obtain ⟨c_2, h⟩ := Sh.chk_some h
   refine uK 2 rfl c_1 ?_
   refine uK 1 rfl (show 0 ≤ r_6.at_ ∧ 0 ≤ (r_6.at_ + r_7.2) ∧ ((r_6.at_).toNat ≤ ((r_6.at_ + r_7.2)).toNat ∧ ((r_6.at_ + r_7.2)).toNat ≤ r_6.s.length) from ⟨(by omega), (by omega), (by omega)⟩) ?_
   refine uK 1 rfl trivial ?_
   refine vE rfl rfl rfl rfl (uQ (cs' := (cGTok (GTok.mk r_7.1 l_1.text l_1.file_ l_1.from_ l_1.to l_1.blank))) (v := (iA r_7.1)) rfl rfl hH (i := 0) rfl rfl rfl rfl rfl rfl rfl fun H' hH => ⟨⟨hH.cell (i := 2) rfl, hH.rowAt (i := 1) rfl, hG.up hH, trivial⟩, ?_⟩)
   refine uK 1 rfl trivial ?_
   refine vE rfl rfl rfl rfl (uQ (cs' := (cGTok (GTok.mk r_7.1 ((r_6.s.drop (r_6.at_).toNat).take (((r_6.at_ + r_7.2)).toNat - (r_6.at_).toNat)) l_1.file_ l_1.from_ l_1.to l_1.blank))) (v := (sA ((r_6.s.drop (r_6.at_).toNat).take (((r_6.at_ + r_7.2)).toNat - (r_6.at_).toNat)))) rfl rfl hH (i := 0) rfl rfl rfl rfl rfl rfl rfl fun H' hH => ⟨⟨hH.cell (i := 2) rfl, hH.rowAt (i := 1) rfl, hG.up hH, trivial⟩, ?_⟩)
   refine WpPi.nil ?_
   refine wJ (fun H => H g_1 = some (.cells 83 (cGPptok_reader r_6)) ∧ RowAt H 50 6 p_1 (List.map cGTok out_1) ∧ Glob H ∧ True) [.I, .I, .I, .I, .I, .I, .I, .I, .I, .I, .I, .I, .I, .I, .I, .I, .I, .I, .I, .I, .I, .E, .I, .E] [0, 1, 2, 3, 4, 5, 6, 7, 8, 9, 10, 11, 12, 13, 14, 15, 16, 17, 18, 19, 20, 21, 22, 23] (by kernel_rfl) (by kernel_rfl) ⟨hH.cell (i := 2) rfl, hH.rowAt (i := 1) rfl, hG.up hH, trivial⟩ ?_
   refine uK 4 rfl trivial ?_
   refine vD (v := (iA r_6.at_)) rfl rfl rfl rfl (fun _ hi => Exact.load rfl rfl hi.1 rfl rfl) ?_
   obtain ⟨y_1, hy_1, h⟩ := Sh.bind_some h
   refine uV (v := (.rop (cGChar y_1))) rfl rfl rfl rfl (fun _ => uR cGChar hy_1 rfl rfl rfl rfl (by kernel_rfl) (by decide)) ?_
   refine uK 1 rfl trivial ?_
   refine uV (v := (iA y_1.at_)) rfl rfl rfl rfl (fun _ => uG rfl rfl rfl) ?_
   refine uK 4 rfl trivial ?_
   refine vD (v := (iA r_6.at_)) rfl rfl rfl rfl (fun _ hi => Exact.load rfl rfl hi.1 rfl rfl) ?_
   obtain ⟨c_3, h⟩ := Sh.chk_some h
   obtain ⟨c_4, h⟩ := Sh.chk_some h
   obtain ⟨y_2, hy_2, h⟩ := Sh.bind_some h
   refine uK 3 rfl ⟨c_4, c_3⟩ ?_
   refine uV (v := (.rop (cGChar y_2))) rfl rfl rfl rfl (fun _ => uR cGChar hy_2 rfl rfl rfl rfl (by kernel_rfl) (by decide)) ?_
   refine uK 1 rfl trivial ?_
   refine uV (v := (iA y_2.at_)) rfl rfl rfl rfl (fun _ => uG rfl rfl rfl) ?_
   obtain ⟨c_5, h⟩ := Sh.chk_some h
   refine uK 2 rfl c_5 ?_
   refine vE rfl rfl rfl rfl (uQ (cs' := (cGTok (GTok.mk r_7.1 ((r_6.s.drop (r_6.at_).toNat).take (((r_6.at_ + r_7.2)).toNat - (r_6.at_).toNat)) l_1.file_ y_1.at_ l_1.to l_1.blank))) (v := (iA y_1.at_)) rfl rfl hH (i := 0) rfl rfl rfl rfl rfl rfl rfl fun H' hH => ⟨⟨hH.cell (i := 2) rfl, hH.rowAt (i := 1) rfl, hG.up hH, trivial⟩, ?_⟩)
   refine uK 1 rfl trivial ?_
   refine vE rfl rfl rfl rfl (uQ (cs' := (cGTok (GTok.mk r_7.1 ((r_6.s.drop (r_6.at_).toNat).take (((r_6.at_ + r_7.2)).toNat - (r_6.at_).toNat)) l_1.file_ y_1.at_ (y_2.at_ + (1 : Int)) l_1.blank))) (v := (iA (y_2.at_ + (1 : Int)))) rfl rfl hH (i := 0) rfl rfl rfl rfl rfl rfl rfl fun H' hH => ⟨⟨hH.cell (i := 2) rfl, hH.rowAt (i := 1) rfl, hG.up hH, trivial⟩, ?_⟩)
   refine WpPi.nil ?_
   refine uC ?_
   refine uA 3 rfl trivial ?_
   refine uB (v := (iA r_6.at_)) rfl rfl (Exact.load rfl rfl (hH.cell (i := 2) rfl) rfl rfl) ?_
   obtain ⟨c_6, h⟩ := Sh.chk_some h
   refine uA 4 rfl c_6 ?_
   refine uE rfl rfl (uQ (cs' := (cGPptok_reader (GPptok_reader.mk r_6.s (r_6.at_ + r_7.2)))) (v := (iA (r_6.at_ + r_7.2))) rfl rfl hH (i := 2) rfl rfl rfl rfl rfl rfl rfl fun H' hH => ?_)
   refine WpOps.nil ?_
   refine uJ ?_
   refine uA 1 rfl trivial ?_
   refine uB (v := (AV.agg (cGTok (GTok.mk r_7.1 ((r_6.s.drop (r_6.at_).toNat).take (((r_6.at_ + r_7.2)).toNat - (r_6.at_).toNat)) l_1.file_ y_1.at_ (y_2.at_ + (1 : Int)) l_1.blank)))) rfl rfl (Exact.load rfl rfl (hH.cell (i := 0) rfl) rfl rfl) ?_
   refine uB (v := (AV.rows 6 (List.map cGTok ([(GTok.mk r_7.1 ((r_6.s.drop (r_6.at_).toNat).take (((r_6.at_ + r_7.2)).toNat - (r_6.at_).toNat)) l_1.file_ y_1.at_ (y_2.at_ + (1 : Int)) l_1.blank)] : List GTok)))) rfl rfl (uW rfl (by kernel_rfl)) ?_
   obtain ⟨c_7, h⟩ := Sh.chk_some h
   refine uE rfl rfl (vL cGTok out_1 ([(GTok.mk r_7.1 ((r_6.s.drop (r_6.at_).toNat).take (((r_6.at_ + r_7.2)).toNat - (r_6.at_).toNat)) l_1.file_ y_1.at_ (y_2.at_ + (1 : Int)) l_1.blank)] : List GTok) (i := 1) rfl ek37 hH rfl rfl rfl (.rows _) (fun y _ => one_cGTok y) (by simp) c_7 (by decide) fun p_2 H' hH => ?_)
   refine uA 1 rfl trivial ?_
   refine WpOps.nil ?_
   obtain ⟨_, hle_1, hH⟩ := hH.lose_ (i := 0) rfl
   obtain rfl := Sh.some_inj h
   exact ⟨_, hle_1, ((out_1 ++ ([(GTok.mk r_7.1 ((r_6.s.drop (r_6.at_).toNat).take (((r_6.at_ + r_7.2)).toNat - (r_6.at_).toNat)) l_1.file_ y_1.at_ (y_2.at_ + (1 : Int)) l_1.blank)] : List GTok)), (GPptok_reader.mk r_6.s (r_6.at_ + r_7.2))), p_2, rfl, ⟨rfl, rfl, rfl, rfl, trivial⟩, hH⟩
theorem w_unit_name {H0 : Heap} (hG : Glob H0) {s_1 : List UInt8} {r : Bool} (h : unit_name s_1 = some r) : TCall Tryz.prog 47 [(sA s_1)] H0 (fun v H' => v = (bA r) ∧ H' = H0) noE := by
  unfold unit_name at h; cases h
theorem w_unit_First {H0 : Heap} (hG : Glob H0) {defs_1 : List (List UInt8)} {r : List GMacro × Int} (h : unit_First defs_1 = some r) : TCall Tryz.prog 24 [(AV.rows 1 (List.map cS defs_1))] H0 (fun v H' => v = (.tup [(AV.rows 5 (List.map cGMacro r.1)), (iA r.2)]) ∧ H' = H0) noE := by
 refine id (TCall.body Tryz.func24 rfl rfl ?_)
 have hH : Holds H0 [] H0 := rfl
 refine uC ?_
 refine uA 2 rfl trivial ?_
 refine WpOps.nil ?_
 refine uC ?_
 refine uA 1 rfl trivial ?_
 have hH := hH.nil 69 5
 refine WpOps.nil ?_
 refine WpC.seq ?_
 refine uC ?_
 refine uA 2 rfl trivial ?_
 refine uN 8 (len_map _ _) ?_
 refine uA 1 rfl trivial ?_
 refine WpOps.nil ?_
 refine vA (fun x : (List GMacro) × ((Option (Nat × Nat))) => [(4, (.own (List.map cGMacro x.1).length x.2))]) (fun x H' => unit_First_j1 x.1 = some r ∧ Holds H0 [.own 69 5 x.2 (List.map cGMacro x.1)] H') ?_ ?_
 ·
  obtain ⟨o_1, ho_1, hk_1⟩ := Sh.bind_some h
  refine uX (unit_First_b2 defs_1) (fun (s : Int × List GMacro) (a : (Option (Nat × Nat))) => [(4, (.own (List.map cGMacro s.2).length a)), (7, (AV.rows 1 (List.map cS defs_1))), (8, (iA (defs_1.length : Int))), (9, (iA s.1))]) (fun (s : Int × List GMacro) (a : (Option (Nat × Nat))) H' => Holds H0 [.own 69 5 a (List.map cGMacro s.2)] H') o_1 ((0 : Int), ([] : List GMacro)) none ho_1 ⟨rfl, rfl, rfl, rfl, trivial⟩ hH ?_
  rintro ⟨t9_1, out_1⟩ p_1 st_1 env H' h hd_1 hH
  refine uC ?_
  refine uA 1 rfl trivial ?_
  refine WpOps.nil ?_
  refine WpC.seq ?_
  refine uF rfl (fun hb => ?_) (fun hb => ?_)
  ·
   replace h := Sh.ite_pos hb h
   refine uI ?_
   refine ⟨_, uD _, ?_⟩
   refine WpC.seq ?_
   refine WpC.block ?_
   refine uC ?_
   obtain ⟨y_1, hy_1, h⟩ := Sh.bind_some h
   refine uB (v := (.rop (cS y_1))) rfl rfl (uR cS hy_1 rfl rfl rfl rfl (by kernel_rfl) (by decide)) ?_
   refine uB (v := (sA y_1)) rfl rfl (uG rfl rfl rfl) ?_
   refine uE rfl rfl (vC (z := cS ([] : List UInt8)) rfl rfl hH fun g_1 H' hH => ?_)
   refine uE rfl rfl (uQ (cs' := (cS y_1)) (v := (sA y_1)) rfl rfl hH (i := 0) rfl rfl rfl rfl rfl rfl rfl fun H' hH => ?_)
   refine WpOps.nil ?_
   refine WpC.seq ?_
   refine uC ?_
   refine uB (v := (sA y_1)) rfl rfl (Exact.load rfl rfl (hH.cell (i := 0) rfl) rfl rfl) ?_
   obtain ⟨r_1, hr_1, h⟩ := Sh.bind_some h
   refine uB (v := (bA r_1)) rfl rfl (Exact.call rfl rfl rfl (w_unit_name (hG.up hH) hr_1)) ?_
   refine uA 1 rfl trivial ?_
   refine WpOps.nil ?_
   refine uF rfl (fun hb => ?_) (fun hb => ?_)
   ·
    replace h := Sh.ite_pos hb h
    refine uC ?_
    refine uA 2 rfl trivial ?_
    refine WpOps.nil ?_
    refine WpC.sub (t := 2) (Sub.nil 5) ?_
    refine uP (i := 0) hH rfl (fun H' hH => ?_)
    refine uP (i := 0) hH rfl (fun H' hH => ?_)
    obtain rfl := Sh.some_inj h
    have e := hd_1 _ rfl
    subst e
    have h := hk_1
    obtain rfl := Sh.some_inj h
    refine WpC.ret ?_
    exact uU rfl rfl rfl ⟨rfl, hH⟩
   ·
    replace h := Sh.ite_neg hb h
    refine uI ?_
    refine ⟨_, uD _, ?_⟩
    refine WpC.seq ?_
    cases h
  ·
   replace h := Sh.ite_neg hb h
   obtain rfl := Sh.some_inj h
   have e := hd_1 _ rfl
   subst e
   refine WpC.exit ?_
   exact ⟨(out_1, p_1), ⟨rfl, trivial⟩, hk_1, hH⟩
 ·
  rintro ⟨out_2, p_2⟩ env H' ⟨h, hH⟩
  try dsimp only at h
  refine ⟨_, uD _, ?_⟩
  refine uC ?_
  refine uA 3 rfl trivial ?_
  refine WpOps.nil ?_
  refine vJ (t := 2) (i := 0) hH rfl rfl (fun H' hH => ?_)
  obtain rfl := Sh.some_inj h
  refine WpC.ret ?_
  exact uU rfl rfl rfl ⟨rfl, hH⟩
theorem w_unit_Find_c1 {H0 : Heap} {f_1 : GFile} {t1_1 : List UInt8} {r : Bool} (h : unit_Find_c1 f_1 t1_1 = some r) : TCall Tryz.prog 51 [(AV.agg (cGFile f_1)), (.rop [(sA t1_1)])] H0 (fun v H' => v = (bA r) ∧ H' = H0) noE := by
 refine id (TCall.body Tryz.func51 rfl rfl ?_)
 have hH : Holds H0 [] H0 := rfl
 refine uC ?_
 refine uE rfl rfl (vF (v := (AV.agg (cGFile f_1))) rfl rfl hH fun g_1 H' hH => ?_)
 refine uA 1 rfl trivial ?_
 refine WpOps.nil ?_
 refine uC ?_
 refine uA 1 rfl trivial ?_
 refine uB (v := (sA f_1.path)) rfl rfl (Exact.load rfl rfl (hH.cell (i := 0) rfl) rfl rfl) ?_
 refine uB (v := (sA t1_1)) rfl rfl (uG rfl rfl rfl) ?_
 refine uA 2 rfl trivial ?_
 refine WpOps.nil ?_
 refine uP (i := 0) hH rfl (fun H' hH => ?_)
 obtain rfl := Sh.some_inj h
 refine WpC.ret ?_
 exact uH rfl rfl ⟨rfl, hH⟩
theorem w_slices_IndexFunc_Lapi_File_api_File__unit_Find_c1 {H0 : Heap} {s_1 : List GFile} {cap_1 : List UInt8} {r : Int} (h : slices_IndexFunc_Lapi_File_api_File__unit_Find_c1 s_1 cap_1 = some r) : TCall Tryz.prog 50 [(AV.rows 2 (List.map cGFile s_1)), (.clo (.func 51) [] [(.rop [(sA cap_1)])])] H0 (fun v H' => v = (iA r) ∧ H' = H0) noE := by
 refine id (TCall.body Tryz.func50 rfl rfl ?_)
 have hH : Holds H0 [] H0 := rfl
 refine uC ?_
 refine uA 1 rfl trivial ?_
 refine WpOps.nil ?_
 refine WpC.seq ?_
 refine uC ?_
 refine uA 2 rfl trivial ?_
 refine uN 7 (len_map _ _) ?_
 refine uA 1 rfl trivial ?_
 refine WpOps.nil ?_
 refine vA (fun x : (Unit) × (Unit) => []) (fun x H' => slices_IndexFunc_Lapi_File_api_File__unit_Find_c1_j1 x.1 = some r ∧ Holds H0 [] H') ?_ ?_
 ·
  obtain ⟨o_1, ho_1, hk_1⟩ := Sh.bind_some h
  refine uX (slices_IndexFunc_Lapi_File_api_File__unit_Find_c1_b2 s_1 cap_1) (fun (s : Int) (a : Unit) => [(0, (AV.rows 2 (List.map cGFile s_1))), (1, (.clo (.func 51) [] [(.rop [(sA cap_1)])])), (7, (iA (s_1.length : Int))), (8, (iA s))]) (fun (s : Int) (a : Unit) H' => Holds H0 [] H') o_1 (0 : Int) () ho_1 ⟨rfl, rfl, rfl, rfl, trivial⟩ hH ?_
  rintro t8_1 _ st_1 env H' h hd_1 hH
  refine uC ?_
  refine uA 1 rfl trivial ?_
  refine WpOps.nil ?_
  refine WpC.seq ?_
  refine uF rfl (fun hb => ?_) (fun hb => ?_)
  ·
   replace h := Sh.ite_pos hb h
   refine uI ?_
   refine ⟨_, uD _, ?_⟩
   refine WpC.seq ?_
   refine WpC.block ?_
   refine uC ?_
   refine uA 2 rfl trivial ?_
   refine WpOps.nil ?_
   refine uC ?_
   obtain ⟨y_1, hy_1, h⟩ := Sh.bind_some h
   refine uA 3 rfl trivial ?_
   refine uB (v := (.rop (cGFile y_1))) rfl rfl (uR cGFile hy_1 rfl rfl rfl rfl (by kernel_rfl) (by decide)) ?_
   refine uB (v := (AV.agg (cGFile y_1))) rfl rfl (uG rfl rfl rfl) ?_
   obtain ⟨r_1, hr_1, h⟩ := Sh.bind_some h
   refine uB (v := (bA r_1)) rfl rfl (vN rfl rfl rfl rfl (w_unit_Find_c1 hr_1)) ?_
   refine WpOps.nil ?_
   refine uF rfl (fun hb => ?_) (fun hb => ?_)
   ·
    replace h := Sh.ite_pos hb h
    refine uC ?_
    refine uA 2 rfl trivial ?_
    refine WpOps.nil ?_
    obtain rfl := Sh.some_inj h
    have e := hd_1 _ rfl
    subst e
    have h := hk_1
    obtain rfl := Sh.some_inj h
    refine WpC.ret ?_
    exact uH rfl rfl ⟨rfl, hH⟩
   ·
    replace h := Sh.ite_neg hb h
    refine uI ?_
    refine ⟨_, uD _, ?_⟩
    refine uJ ?_
    obtain ⟨c_1, h⟩ := Sh.chk_some h
    refine uA 2 rfl c_1 ?_
    refine WpOps.nil ?_
    obtain rfl := Sh.some_inj h
    exact ⟨_, (uD _), (t8_1 + (1 : Int)), (), rfl, ⟨rfl, rfl, rfl, rfl, trivial⟩, hH⟩
  ·
   replace h := Sh.ite_neg hb h
   obtain rfl := Sh.some_inj h
   have e := hd_1 _ rfl
   subst e
   refine WpC.exit ?_
   exact ⟨((), ()), trivial, hk_1, hH⟩
 ·
  rintro ⟨_, _⟩ env H' ⟨h, hH⟩
  try dsimp only at h
  refine ⟨_, uD _, ?_⟩
  refine uC ?_
  refine uA 1 rfl trivial ?_
  refine WpOps.nil ?_
  obtain rfl := Sh.some_inj h
  refine WpC.ret ?_
  exact uH rfl rfl ⟨rfl, hH⟩
theorem w_unit_Find {H0 : Heap} {files_1 : List GFile} {path_1 : List UInt8} {r : Int} (h : unit_Find files_1 path_1 = some r) : TCall Tryz.prog 25 [(AV.rows 2 (List.map cGFile files_1)), (sA path_1)] H0 (fun v H' => v = (iA r) ∧ H' = H0) noE := by
 refine id (TCall.body Tryz.func25 rfl rfl ?_)
 have hH : Holds H0 [] H0 := rfl
 refine uC ?_
 refine uE rfl rfl (vF (v := (sA path_1)) rfl rfl hH fun g_1 H' hH => ?_)
 refine uA 1 rfl trivial ?_
 refine WpOps.nil ?_
 refine WpC.ice (t := 3) (i := 0) hH rfl rfl (fun H' hH => ?_)
 refine uC ?_
 obtain ⟨r_1, hr_1, h⟩ := Sh.bind_some h
 refine uA 2 rfl trivial ?_
 refine uB (v := (iA r_1)) rfl rfl (Exact.call rfl rfl rfl (w_slices_IndexFunc_Lapi_File_api_File__unit_Find_c1 hr_1)) ?_
 refine uA 1 rfl trivial ?_
 refine WpOps.nil ?_
 obtain rfl := Sh.some_inj h
 refine WpC.ret ?_
 exact uH rfl rfl ⟨rfl, hH⟩
theorem w_direct_sign {H0 : Heap} {t_1 : GTok} {s_1 : List UInt8} {r : Bool} (h : direct_sign t_1 s_1 = some r) : TCall Tryz.prog 110 [(AV.agg (cGTok t_1)), (sA s_1)] H0 (fun v H' => v = (bA r) ∧ H' = H0) noE := by
 refine id (TCall.body Tryz.func110 rfl rfl ?_)
 have hH : Holds H0 [] H0 := rfl
 refine uC ?_
 refine uE rfl rfl (vF (v := (AV.agg (cGTok t_1))) rfl rfl hH fun g_1 H' hH => ?_)
 refine uA 1 rfl trivial ?_
 refine WpOps.nil ?_
 refine uC ?_
 refine uA 1 rfl trivial ?_
 refine uB (v := (iA t_1.kind)) rfl rfl (Exact.load rfl rfl (hH.cell (i := 0) rfl) rfl rfl) ?_
 refine uA 1 rfl trivial ?_
 obtain ⟨b_1, g_2, h⟩ := Sh.bind_some h
 refine uM 6 13 (bA b_1) rfl ?_ ?_
 ·
  refine uA 1 rfl trivial ?_
  refine uL 8 rfl (fun hb => ?_) (fun hb => ?_)
  ·
   replace g_2 := Sh.ite_pos hb g_2
   refine uA 1 rfl trivial ?_
   refine uB (v := (sA t_1.text)) rfl rfl (Exact.load rfl rfl (hH.cell (i := 0) rfl) rfl rfl) ?_
   refine uA 3 rfl trivial ?_
   refine WpOps.nil ?_
   obtain rfl := Sh.some_inj g_2
   exact ⟨rfl, rfl⟩
  ·
   replace g_2 := Sh.ite_neg hb g_2
   refine uA 5 rfl trivial ?_
   refine WpOps.nil ?_
   obtain rfl := Sh.some_inj g_2
   exact ⟨rfl, rfl⟩
 intro env
 refine uA 1 rfl trivial ?_
 refine WpOps.nil ?_
 refine uP (i := 0) hH rfl (fun H' hH => ?_)
 obtain rfl := Sh.some_inj h
 refine WpC.ret ?_
 exact uH rfl rfl ⟨rfl, hH⟩
theorem w_direct_Kind {H0 : Heap} (hG : Glob H0) {word_1 : List UInt8} {r : Int} (h : direct_Kind word_1 = some r) : TCall Tryz.prog 111 [(sA word_1)] H0 (fun v H' => v = (iA r) ∧ H' = H0) noE := by
 refine id (TCall.body Tryz.func111 rfl rfl ?_)
 have hH : Holds H0 [] H0 := rfl
 refine uC ?_
 refine uA 1 rfl trivial ?_
 refine WpOps.nil ?_
 refine WpC.seq ?_
 refine uC ?_
 refine uB (v := (AV.agg (List.map (fun y => (sA y)) words))) rfl rfl (Exact.load rfl rfl (hG.up hH).words rfl (by kernel_rfl)) ?_
 refine uA 1 rfl trivial ?_
 refine WpOps.nil ?_
 refine vA (fun x : (Unit) × (Unit) => []) (fun x H' => direct_Kind_j1 x.1 = some r ∧ Holds H0 [] H') ?_ ?_
 ·
  obtain ⟨o_1, ho_1, hk_1⟩ := Sh.bind_some h
  refine uX (direct_Kind_b2 word_1) (fun (s : Int) (a : Unit) => [(0, (sA word_1)), (5, (AV.agg (List.map (fun y => (sA y)) words))), (6, (iA s))]) (fun (s : Int) (a : Unit) H' => Holds H0 [] H') o_1 (0 : Int) () ho_1 ⟨rfl, rfl, rfl, trivial⟩ hH ?_
  rintro t6_1 _ st_1 env H' h hd_1 hH
  refine uC ?_
  refine uA 1 rfl trivial ?_
  refine WpOps.nil ?_
  refine WpC.seq ?_
  refine uF rfl (fun hb => ?_) (fun hb => ?_)
  ·
   replace h := Sh.ite_pos hb h
   refine uI ?_
   refine ⟨_, uD _, ?_⟩
   refine WpC.seq ?_
   refine WpC.block ?_
   refine uC ?_
   obtain ⟨y_1, hy_1, h⟩ := Sh.bind_some h
   refine uA 1 rfl trivial ?_
   refine uB (v := (sA y_1)) rfl rfl (Exact.ixa (fun y => (sA y)) hy_1 rfl rfl rfl rfl rfl (by kernel_rfl) rfl) ?_
   refine uA 2 rfl trivial ?_
   refine WpOps.nil ?_
   refine uC ?_
   refine uA 3 rfl trivial ?_
   refine WpOps.nil ?_
   refine uF rfl (fun hb => ?_) (fun hb => ?_)
   ·
    replace h := Sh.ite_pos hb h
    refine uC ?_
    obtain ⟨c_1, h⟩ := Sh.chk_some h
    refine uA 3 rfl c_1 ?_
    refine WpOps.nil ?_
    obtain rfl := Sh.some_inj h
    have e := hd_1 _ rfl
    subst e
    have h := hk_1
    obtain rfl := Sh.some_inj h
    refine WpC.ret ?_
    exact uH rfl rfl ⟨rfl, hH⟩
   ·
    replace h := Sh.ite_neg hb h
    refine uI ?_
    refine ⟨_, uD _, ?_⟩
    refine uJ ?_
    obtain ⟨c_2, h⟩ := Sh.chk_some h
    refine uA 2 rfl c_2 ?_
    refine WpOps.nil ?_
    obtain rfl := Sh.some_inj h
    exact ⟨_, (uD _), (t6_1 + (1 : Int)), (), rfl, ⟨rfl, rfl, rfl, trivial⟩, hH⟩
  ·
   replace h := Sh.ite_neg hb h
   obtain rfl := Sh.some_inj h
   have e := hd_1 _ rfl
   subst e
   refine WpC.exit ?_
   exact ⟨((), ()), trivial, hk_1, hH⟩
 ·
  rintro ⟨_, _⟩ env H' ⟨h, hH⟩
  try dsimp only at h
  refine ⟨_, uD _, ?_⟩
  refine uC ?_
  refine uA 1 rfl trivial ?_
  refine WpOps.nil ?_
  obtain rfl := Sh.some_inj h
  refine WpC.ret ?_
  exact uH rfl rfl ⟨rfl, hH⟩
theorem w_direct_line {H0 : Heap} (hG : Glob H0) {l_1 : List GTok} {r : GLine} (h : direct_line l_1 = some r) : TCall Tryz.prog 90 [(AV.rows 6 (List.map cGTok l_1))] H0 (fun v H' => v = (AV.agg (cGLine r)) ∧ H' = H0) noE := by
 refine TCall.up (TCall.body Tryz.func90 rfl rfl ?_)
 have hH : Holds H0 [] H0 := rfl
 refine uC ?_
 refine uE rfl rfl (vK (z' := cGLine (GLine.mk (0 : Int) (0 : Int) (0 : Int) ([] : List GTok))) rfl rfl (.cons (.refl _) (.cons (.refl _) (.cons (.refl _) (.cons (Sub.nil _) .nil)))) hH fun g_1 H' hH => ?_)
 refine WpOps.nil ?_
 refine uC ?_
 refine uA 2 rfl trivial ?_
 refine uN 6 (len_map _ _) ?_
 refine uA 2 rfl trivial ?_
 refine uE rfl rfl (vK (z' := cGLine (GLine.mk (0 : Int) (0 : Int) (0 : Int) ([] : List GTok))) rfl rfl (.cons (.refl _) (.cons (.refl _) (.cons (.refl _) (.cons (Sub.nil _) .nil)))) hH fun g_2 H' hH => ?_)
 refine uE rfl rfl (uQ (cs' := (cGLine (GLine.mk (1 : Int) (0 : Int) (l_1.length : Int) l_1))) (v := (AV.agg (cGLine (GLine.mk (1 : Int) (0 : Int) (l_1.length : Int) l_1)))) rfl rfl hH (i := 0) rfl rfl rfl rfl rfl rfl rfl fun H' hH => ?_)
 refine WpOps.nil ?_
 refine WpC.seq ?_
 refine uC ?_
 refine uA 2 rfl trivial ?_
 refine uN 10 (len_map _ _) ?_
 refine uA 1 rfl trivial ?_
 obtain ⟨b_1, g_3, h⟩ := Sh.bind_some h
 refine uM 7 18 (bA b_1) rfl ?_ ?_
 ·
  refine uA 1 rfl trivial ?_
  refine uL 12 rfl (fun hb => ?_) (fun hb => ?_)
  ·
   replace g_3 := Sh.ite_pos hb g_3
   refine uA 6 rfl trivial ?_
   refine WpOps.nil ?_
   obtain rfl := Sh.some_inj g_3
   exact ⟨rfl, rfl⟩
  ·
   replace g_3 := Sh.ite_neg hb g_3
   obtain ⟨y_1, hy_1, g_3⟩ := Sh.bind_some g_3
   refine uA 1 rfl trivial ?_
   refine uB (v := (.rop (cGTok y_1))) rfl rfl (uR cGTok hy_1 rfl rfl rfl rfl (by kernel_rfl) (by decide)) ?_
   refine uB (v := (AV.agg (cGTok y_1))) rfl rfl (uG rfl rfl rfl) ?_
   obtain ⟨r_1, hr_1, g_3⟩ := Sh.bind_some g_3
   refine uB (v := (bA r_1)) rfl rfl (Exact.call rfl rfl rfl (w_direct_sign hr_1)) ?_
   refine uA 2 rfl trivial ?_
   refine WpOps.nil ?_
   obtain rfl := Sh.some_inj g_3
   exact ⟨rfl, rfl⟩
 intro env
 refine WpOps.nil ?_
 refine uF rfl (fun hb => ?_) (fun hb => ?_)
 ·
  replace h := Sh.ite_pos hb h
  refine uC ?_
  refine uB (v := (AV.agg (cGLine (GLine.mk (1 : Int) (0 : Int) (l_1.length : Int) l_1)))) rfl rfl (Exact.load rfl rfl (hH.cell (i := 0) rfl) rfl rfl) ?_
  refine uE rfl rfl (uQ (cs' := (cGLine (GLine.mk (1 : Int) (0 : Int) (l_1.length : Int) l_1))) (v := (AV.agg (cGLine (GLine.mk (1 : Int) (0 : Int) (l_1.length : Int) l_1)))) rfl rfl hH (i := 1) rfl rfl rfl rfl rfl rfl rfl fun H' hH => ?_)
  refine WpOps.nil ?_
  refine uP (i := 0) hH rfl (fun H' hH => ?_)
  obtain rfl := Sh.some_inj h
  refine WpC.ret ?_
  have hr := hH
  obtain ⟨_, hle_1, hx_1⟩ := hH.lose_ (i := 0) rfl
  exact vZ rfl (.cell rfl (hH.cell (i := 0) rfl) rfl rfl .nil) ⟨_, _, Up.drop hle_1 _, rfl, hx_1⟩
 ·
  replace h := Sh.ite_neg hb h
  refine uI ?_
  refine ⟨_, uD _, ?_⟩
  refine vO [.I, .I, .I, .E, .I, .E] [0, 1, 2, 3, 4, 5] (by kernel_rfl) (by kernel_rfl) ?_
  obtain ⟨c_1, h⟩ := Sh.chk_some h
  refine uK 1 rfl trivial ?_
  refine uK 1 rfl (show 0 ≤ (1 : Int) ∧ True ∧ True ∧ ((1 : Int)).toNat ≤ (List.map cGTok l_1).length ∧ True from ⟨(by omega), trivial, trivial, (by simp only [List.length_map]; omega), trivial⟩) ?_
  refine WpPi.at 21 (rows_drop 6 cGTok l_1 _) ?_
  refine uK 1 rfl trivial ?_
  refine vM rfl rfl rfl rfl (uQ (cs' := (cGLine (GLine.mk (14 : Int) (0 : Int) (l_1.length : Int) l_1))) (v := (iA (14 : Int))) rfl rfl hH (i := 0) rfl rfl rfl rfl rfl rfl rfl fun H' hH => ?_)
  refine uK 1 rfl trivial ?_
  refine vM rfl rfl rfl rfl (uQ (cs' := (cGLine (GLine.mk (14 : Int) (0 : Int) (l_1.length : Int) (l_1.drop ((1 : Int)).toNat)))) (v := (AV.rows 6 (List.map cGTok (l_1.drop ((1 : Int)).toNat)))) rfl rfl hH (i := 0) rfl rfl rfl rfl rfl rfl rfl fun H' hH => ?_)
  refine WpPi.nil ?_
  refine WpC.seq ?_
  refine uC ?_
  refine uA 2 rfl trivial ?_
  refine uN 25 (len_map _ _) ?_
  refine uA 1 rfl trivial ?_
  refine WpOps.nil ?_
  refine uF rfl (fun hb => ?_) (fun hb => ?_)
  ·
   replace h := Sh.ite_pos hb h
   refine uC ?_
   refine uB (v := (AV.agg (cGLine (GLine.mk (14 : Int) (0 : Int) (l_1.length : Int) (l_1.drop ((1 : Int)).toNat))))) rfl rfl (Exact.load rfl rfl (hH.cell (i := 0) rfl) rfl rfl) ?_
   refine uE rfl rfl (uQ (cs' := (cGLine (GLine.mk (14 : Int) (0 : Int) (l_1.length : Int) (l_1.drop ((1 : Int)).toNat)))) (v := (AV.agg (cGLine (GLine.mk (14 : Int) (0 : Int) (l_1.length : Int) (l_1.drop ((1 : Int)).toNat))))) rfl rfl hH (i := 1) rfl rfl rfl rfl rfl rfl rfl fun H' hH => ?_)
   refine WpOps.nil ?_
   refine uP (i := 0) hH rfl (fun H' hH => ?_)
   obtain rfl := Sh.some_inj h
   refine WpC.ret ?_
   have hr := hH
   obtain ⟨_, hle_2, hx_2⟩ := hH.lose_ (i := 0) rfl
   exact vZ rfl (.cell rfl (hH.cell (i := 0) rfl) rfl rfl .nil) ⟨_, _, Up.drop hle_2 _, rfl, hx_2⟩
  ·
   replace h := Sh.ite_neg hb h
   refine uI ?_
   refine ⟨_, uD _, ?_⟩
   refine uC ?_
   refine uA 1 rfl trivial ?_
   refine uE rfl rfl (uQ (cs' := (cGLine (GLine.mk (15 : Int) (0 : Int) (l_1.length : Int) (l_1.drop ((1 : Int)).toNat)))) (v := (iA (15 : Int))) rfl rfl hH (i := 0) rfl rfl rfl rfl rfl rfl rfl fun H' hH => ?_)
   refine WpOps.nil ?_
   refine WpC.seq ?_
   refine uC ?_
   obtain ⟨y_2, hy_2, h⟩ := Sh.bind_some h
   refine uA 1 rfl trivial ?_
   refine uB (v := (.rop (cGTok y_2))) rfl rfl (uR cGTok hy_2 rfl rfl rfl rfl (by kernel_rfl) (by decide)) ?_
   refine uA 1 rfl trivial ?_
   refine uB (v := (iA y_2.kind)) rfl rfl (uG rfl rfl rfl) ?_
   refine uA 1 rfl trivial ?_
   refine WpOps.nil ?_
   refine uF rfl (fun hb => ?_) (fun hb => ?_)
   ·
    replace h := Sh.ite_pos hb h
    refine uC ?_
    refine uB (v := (AV.agg (cGLine (GLine.mk (15 : Int) (0 : Int) (l_1.length : Int) (l_1.drop ((1 : Int)).toNat))))) rfl rfl (Exact.load rfl rfl (hH.cell (i := 0) rfl) rfl rfl) ?_
    refine uE rfl rfl (uQ (cs' := (cGLine (GLine.mk (15 : Int) (0 : Int) (l_1.length : Int) (l_1.drop ((1 : Int)).toNat)))) (v := (AV.agg (cGLine (GLine.mk (15 : Int) (0 : Int) (l_1.length : Int) (l_1.drop ((1 : Int)).toNat))))) rfl rfl hH (i := 1) rfl rfl rfl rfl rfl rfl rfl fun H' hH => ?_)
    refine WpOps.nil ?_
    refine uP (i := 0) hH rfl (fun H' hH => ?_)
    obtain rfl := Sh.some_inj h
    refine WpC.ret ?_
    have hr := hH
    obtain ⟨_, hle_3, hx_3⟩ := hH.lose_ (i := 0) rfl
    exact vZ rfl (.cell rfl (hH.cell (i := 0) rfl) rfl rfl .nil) ⟨_, _, Up.drop hle_3 _, rfl, hx_3⟩
   ·
    replace h := Sh.ite_neg hb h
    refine uI ?_
    refine ⟨_, uD _, ?_⟩
    refine vG (fun x : (GLine) × (Unit) => [(2, (.lit (.pointer (some ⟨g_1, 0, none⟩)))), (3, (.lit (.pointer (some ⟨g_2, 0, none⟩))))]) (fun x H' => direct_line_j1 x.1 = some r ∧ Holds H0 [.cell g_2 57 (cGLine x.1), .cell g_1 57 (cGLine (GLine.mk (0 : Int) (0 : Int) (0 : Int) ([] : List GTok)))] H') ?_ ?_
    ·
     refine uC ?_
     obtain ⟨y_3, hy_3, h⟩ := Sh.bind_some h
     refine uA 1 rfl trivial ?_
     refine uB (v := (.rop (cGTok y_3))) rfl rfl (uR cGTok hy_3 rfl rfl rfl rfl (by kernel_rfl) (by decide)) ?_
     refine uA 1 rfl trivial ?_
     refine uB (v := (sA y_3.text)) rfl rfl (uG rfl rfl rfl) ?_
     obtain ⟨r_2, hr_2, h⟩ := Sh.bind_some h
     refine uB (v := (iA r_2)) rfl rfl (Exact.call rfl rfl rfl (w_direct_Kind (hG.up hH) hr_2)) ?_
     refine uA 1 rfl trivial ?_
     refine WpOps.nil ?_
     refine uC ?_
     refine uA 2 rfl trivial ?_
     refine WpOps.nil ?_
     refine uF rfl (fun hb => ?_) (fun hb => ?_)
     ·
      replace h := Sh.ite_pos hb h
      refine wB [.I, .I, .I, .I, .E, .I, .E] [0, 1, 2, 3, 4, 5, 6] (by kernel_rfl) (by kernel_rfl) ?_
      obtain ⟨c_2, h⟩ := Sh.chk_some h
      refine uK 2 rfl trivial ?_
      refine uK 1 rfl (show 0 ≤ (2 : Int) ∧ True ∧ True ∧ ((2 : Int)).toNat ≤ (List.map cGTok l_1).length ∧ True from ⟨(by omega), trivial, trivial, (by simp only [List.length_map]; omega), trivial⟩) ?_
      refine WpPi.at 44 (rows_drop 6 cGTok l_1 _) ?_
      refine uK 1 rfl trivial ?_
      refine vM rfl rfl rfl rfl (uQ (cs' := (cGLine (GLine.mk r_2 (0 : Int) (l_1.length : Int) (l_1.drop ((1 : Int)).toNat)))) (v := (iA r_2)) rfl rfl hH (i := 0) rfl rfl rfl rfl rfl rfl rfl fun H' hH => ?_)
      refine uK 1 rfl trivial ?_
      refine vM rfl rfl rfl rfl (uQ (cs' := (cGLine (GLine.mk r_2 (0 : Int) (l_1.length : Int) (l_1.drop ((2 : Int)).toNat)))) (v := (AV.rows 6 (List.map cGTok (l_1.drop ((2 : Int)).toNat)))) rfl rfl hH (i := 0) rfl rfl rfl rfl rfl rfl rfl fun H' hH => ?_)
      refine WpPi.nil ?_
      exact ⟨_, (uD _), ((GLine.mk r_2 (0 : Int) (l_1.length : Int) (l_1.drop ((2 : Int)).toNat)), ()), ⟨rfl, rfl, trivial⟩, h, hH⟩
     ·
      replace h := Sh.ite_neg hb h
      refine uI ?_
      exact ⟨_, (uD _), ((GLine.mk (15 : Int) (0 : Int) (l_1.length : Int) (l_1.drop ((1 : Int)).toNat)), ()), ⟨rfl, rfl, trivial⟩, h, hH⟩
    ·
     rintro ⟨out_1, _⟩ env H' ⟨h, hH⟩
     try dsimp only at h
     refine uC ?_
     refine uB (v := (AV.agg (cGLine out_1))) rfl rfl (Exact.load rfl rfl (hH.cell (i := 0) rfl) rfl rfl) ?_
     refine uE rfl rfl (uQ (cs' := (cGLine out_1)) (v := (AV.agg (cGLine out_1))) rfl rfl hH (i := 1) rfl rfl rfl rfl rfl rfl rfl fun H' hH => ?_)
     refine WpOps.nil ?_
     refine uP (i := 0) hH rfl (fun H' hH => ?_)
     obtain rfl := Sh.some_inj h
     refine WpC.ret ?_
     have hr := hH
     obtain ⟨_, hle_4, hx_4⟩ := hH.lose_ (i := 0) rfl
     exact vZ rfl (.cell rfl (hH.cell (i := 0) rfl) rfl rfl .nil) ⟨_, _, Up.drop hle_4 _, rfl, hx_4⟩
theorem w_direct_Lines {H0 : Heap} (hG : Glob H0) {l_1 : List GTok} {r : List GLine} (h : direct_Lines l_1 = some r) : TCall Tryz.prog 56 [(AV.rows 6 (List.map cGTok l_1))] H0 (fun v H' => v = (AV.rows 4 (List.map cGLine r)) ∧ H' = H0) noE := by
  refine id (TCall.body Tryz.func56 rfl rfl ?_)
  have hH : Holds H0 [] H0 := rfl
  refine uC ?_
  refine uE rfl rfl (vF (v := (AV.rows 6 (List.map cGTok l_1))) rfl rfl hH fun g_1 H' hH => ?_)
  refine uA 1 rfl trivial ?_
  refine WpOps.nil ?_
  refine uC ?_
  refine uE rfl rfl (vC rfl rfl hH fun g_2 H' hH => ?_)
  have hH := hH.nil 57 4
  refine WpOps.nil ?_
  refine WpC.seq ?_
  refine uC ?_
  refine uB (v := (AV.rows 6 (List.map cGTok l_1))) rfl rfl (Exact.load rfl rfl (hH.cell (i := 2) rfl) rfl rfl) ?_
  obtain ⟨it_1, hit_1, h⟩ := Sh.bind_some h
  refine uE rfl rfl (WpO.callN rfl rfl rfl hH (fun HH => w_pieces HH) fun g_3 H' hH => ?_)
  refine WpOps.nil ?_
  refine WpC.block ?_
  obtain ⟨o_1, ho_1, hk_1⟩ := Sh.bind_some h
  refine WpC.rangeS (direct_Lines_b1 l_1) it_1 eP (fun (s : List GLine) (a : (Option (Nat × Nat))) => [.cell g_3 37 ((cL 6 cGTok) l_1), .own 57 4 a (List.map cGLine s), .cell g_2 54 [.own (List.map cGLine s).length a], .cell g_1 37 ((cL 6 cGTok) l_1)]) o_1 ([] : List GLine) none ho_1 rfl rfl (by decide) (by obtain ⟨hl, e⟩ := pieces_some hit_1; rw [e]; exact w_pieces_c1 hl (Heap.one_at _ _)) (fun _ => rfl) (fun s a H hH => Heap.one_le (hH.cell (i := 0) rfl)) hH ?_ ?_
  ·
    rintro x_1 l_2 p_1 st_1 H' h hd_1 hH
    refine uC ?_
    refine uA 1 rfl trivial ?_
    refine WpOps.nil ?_
    refine uJ ?_
    refine uA 1 rfl trivial ?_
    refine WpOps.nil ?_
    refine ⟨_, uD _, ?_⟩
    refine WpC.block ?_
    refine uC ?_
    refine uB (v := (AV.rows 6 (List.map cGTok l_1))) rfl rfl (Exact.load rfl rfl (hH.cell (i := 3) rfl) rfl rfl) ?_
    obtain ⟨c_1, h⟩ := Sh.chk_some h
    refine uA 3 rfl trivial ?_
    refine uA 1 rfl (show 0 ≤ x_1.1 ∧ 0 ≤ x_1.2 ∧ 0 ≤ x_1.2 ∧ ((x_1.1).toNat ≤ (x_1.2).toNat ∧ (x_1.2).toNat ≤ (List.map cGTok l_1).length) ∧ ((x_1.2).toNat ≤ (x_1.2).toNat ∧ (x_1.2).toNat ≤ (List.map cGTok l_1).length) from ⟨(by omega), (by omega), (by omega), (by simp only [List.length_map]; omega), (by simp only [List.length_map]; omega)⟩) ?_
    refine uN 15 (rows_cut 6 cGTok l_1 _ _) ?_
    obtain ⟨r_1, hr_1, h⟩ := Sh.bind_some h
    refine uB (v := (AV.agg (cGLine r_1))) rfl rfl (Exact.call rfl rfl rfl (w_direct_line (hG.up hH) hr_1)) ?_
    refine uE rfl rfl (vK (z' := cGLine (GLine.mk (0 : Int) (0 : Int) (0 : Int) ([] : List GTok))) rfl rfl (.cons (.refl _) (.cons (.refl _) (.cons (.refl _) (.cons (Sub.nil _) .nil)))) hH fun g_4 H' hH => ?_)
    refine uE rfl rfl (uQ (cs' := (cGLine r_1)) (v := (AV.agg (cGLine r_1))) rfl rfl hH (i := 0) rfl rfl rfl rfl rfl rfl rfl fun H' hH => ?_)
    refine WpOps.nil ?_
    refine uC ?_
    refine uA 2 rfl trivial ?_
    refine uE rfl rfl (uQ (cs' := (cGLine (GLine.mk r_1.kind x_1.1 r_1.n r_1.toks))) (v := (iA x_1.1)) rfl rfl hH (i := 0) rfl rfl rfl rfl rfl rfl rfl fun H' hH => ?_)
    refine WpOps.nil ?_
    refine uJ ?_
    refine uB rfl rfl (Exact.load rfl rfl (hH.cell (i := 3) rfl) rfl rfl) ?_
    refine uB (v := (AV.agg (cGLine (GLine.mk r_1.kind x_1.1 r_1.n r_1.toks)))) rfl rfl (Exact.load rfl rfl (hH.cell (i := 0) rfl) rfl rfl) ?_
    refine uB (v := (AV.rows 4 (List.map cGLine ([(GLine.mk r_1.kind x_1.1 r_1.n r_1.toks)] : List GLine)))) rfl rfl (uW rfl (by kernel_rfl)) ?_
    obtain ⟨c_2, h⟩ := Sh.chk_some h
    refine uE rfl rfl (vL cGLine l_2 ([(GLine.mk r_1.kind x_1.1 r_1.n r_1.toks)] : List GLine) (i := 2) rfl ek54 hH rfl rfl rfl (.rows _) (fun y _ => one_cGLine y) (by simp) c_2 (by decide) fun p_2 H' hH => ?_)
    refine uE rfl rfl (uQ rfl rfl hH (i := 3) rfl rfl rfl rfl rfl rfl rfl fun H' hH => ?_)
    refine WpOps.nil ?_
    obtain ⟨_, hle_1, hH⟩ := hH.lose_ (i := 0) rfl
    obtain rfl := Sh.some_inj h
    exact ⟨_, hle_1, (l_2 ++ ([(GLine.mk r_1.kind x_1.1 r_1.n r_1.toks)] : List GLine)), p_2, rfl, hH⟩
  ·
    rintro l_3 p_3 H' rfl hH
    have h := hk_1
    refine uC ?_
    refine uB rfl rfl (Exact.load rfl rfl (hH.cell (i := 2) rfl) rfl rfl) ?_
    refine uA 1 rfl trivial ?_
    refine WpOps.nil ?_
    refine vJ (t := 2) (i := 1) hH rfl rfl (fun H' hH => ?_)
    refine uP (i := 0) hH rfl (fun H' hH => ?_)
    refine uP (i := 0) hH rfl (fun H' hH => ?_)
    refine uP (i := 0) hH rfl (fun H' hH => ?_)
    obtain rfl := Sh.some_inj h
    refine WpC.ret ?_
    exact uH rfl rfl ⟨rfl, hH⟩
theorem w_unit_file_wrong {g_1 : Nat} {H0 : Heap} {f_1 : GUnit_file} {line_1 : Int} {e_1 : Int} {r : Option GFault} (h : unit_file_wrong f_1 line_1 e_1 = some r) : TCall Tryz.prog 58 [(.rop (cGUnit_file g_1 f_1)), (iA line_1), (iA e_1)] H0 (fun v H' => v = (errA r) ∧ H' = H0) noE := by
 refine id (TCall.body Tryz.func58 rfl rfl ?_)
 have hH : Holds H0 [] H0 := rfl
 refine uC ?_
 refine uB (v := (errA (none : Option GFault))) rfl rfl (uZ rfl rfl) ?_
 refine WpOps.nil ?_
 refine WpC.seq ?_
 refine uC ?_
 refine uA 2 rfl trivial ?_
 refine WpOps.nil ?_
 refine uF rfl (fun hb => ?_) (fun hb => ?_)
 ·
  replace h := Sh.ite_pos hb h
  refine uC ?_
  refine uB (v := (errA (none : Option GFault))) rfl rfl (uZ rfl rfl) ?_
  refine WpOps.nil ?_
  obtain rfl := Sh.some_inj h
  refine WpC.ret ?_
  exact uH rfl (forceA_rfl rfl) ⟨rfl, hH⟩
 ·
  replace h := Sh.ite_neg hb h
  refine uI ?_
  refine ⟨_, uD _, ?_⟩
  refine uC ?_
  refine uA 3 rfl trivial ?_
  refine uB (v := (iA f_1.number)) rfl rfl (uG rfl rfl rfl) ?_
  refine uA 4 rfl trivial ?_
  refine uE rfl rfl (vF (v := (AV.agg (cGUnit_fault (GUnit_fault.mk (GFault.mk f_1.number line_1 e_1))))) rfl rfl hH fun g_2 H' hH => ?_)
  refine uA 2 rfl trivial ?_
  refine WpOps.nil ?_
  refine WpC.iceI (t := 6) (i := 0) hH rfl rfl (fun H' hH => ?_)
  obtain rfl := Sh.some_inj h
  refine WpC.ret ?_
  exact uH rfl (forceA_rfl rfl) ⟨rfl, hH⟩
theorem w_ifexpr_Defined_c1 {H0 : Heap} {i_1 : Int} {s_1 : List UInt8} {t2_1 : List GTok} {r : Bool} (h : ifexpr_Defined_c1 i_1 s_1 t2_1 = some r) : TCall Tryz.prog 32 [(iA i_1), (sA s_1), (.rop [(AV.rows 6 (List.map cGTok t2_1))])] H0 (fun v H' => v = (bA r) ∧ H' = H0) noE := by
 refine id (TCall.body Tryz.func32 rfl rfl ?_)
 have hH : Holds H0 [] H0 := rfl
 refine uC ?_
 refine uA 1 rfl trivial ?_
 refine WpOps.nil ?_
 refine uC ?_
 refine uA 1 rfl trivial ?_
 refine uB (v := (AV.rows 6 (List.map cGTok t2_1))) rfl rfl (uG rfl rfl rfl) ?_
 refine uA 1 rfl trivial ?_
 refine uN 8 (len_map _ _) ?_
 refine uA 1 rfl trivial ?_
 obtain ⟨b_1, g_1, h⟩ := Sh.bind_some h
 refine uM 8 17 (bA b_1) rfl ?_ ?_
 ·
  refine uA 1 rfl trivial ?_
  refine uL 10 rfl (fun hb => ?_) (fun hb => ?_)
  ·
   replace g_1 := Sh.ite_pos hb g_1
   refine uB (v := (AV.rows 6 (List.map cGTok t2_1))) rfl rfl (uG rfl rfl rfl) ?_
   obtain ⟨y_1, hy_1, g_1⟩ := Sh.bind_some g_1
   refine uA 1 rfl trivial ?_
   refine uB (v := (.rop (cGTok y_1))) rfl rfl (uR cGTok hy_1 rfl rfl rfl rfl (by kernel_rfl) (by decide)) ?_
   refine uA 1 rfl trivial ?_
   refine uB (v := (iA y_1.kind)) rfl rfl (uG rfl rfl rfl) ?_
   refine uA 2 rfl trivial ?_
   refine WpOps.nil ?_
   obtain rfl := Sh.some_inj g_1
   exact ⟨rfl, rfl⟩
  ·
   replace g_1 := Sh.ite_neg hb g_1
   refine uA 7 rfl trivial ?_
   refine WpOps.nil ?_
   obtain rfl := Sh.some_inj g_1
   exact ⟨rfl, rfl⟩
 intro env
 obtain ⟨b_2, g_2, h⟩ := Sh.bind_some h
 refine uM 9 26 (bA b_2) rfl ?_ ?_
 ·
  refine uA 1 rfl trivial ?_
  refine uL 18 rfl (fun hb => ?_) (fun hb => ?_)
  ·
   replace g_2 := Sh.ite_pos hb g_2
   refine uB (v := (AV.rows 6 (List.map cGTok t2_1))) rfl rfl (uG rfl rfl rfl) ?_
   obtain ⟨y_2, hy_2, g_2⟩ := Sh.bind_some g_2
   refine uA 1 rfl trivial ?_
   refine uB (v := (.rop (cGTok y_2))) rfl rfl (uR cGTok hy_2 rfl rfl rfl rfl (by kernel_rfl) (by decide)) ?_
   refine uA 1 rfl trivial ?_
   refine uB (v := (sA y_2.text)) rfl rfl (uG rfl rfl rfl) ?_
   refine uA 3 rfl trivial ?_
   refine WpOps.nil ?_
   obtain rfl := Sh.some_inj g_2
   exact ⟨rfl, rfl⟩
  ·
   replace g_2 := Sh.ite_neg hb g_2
   refine uA 8 rfl trivial ?_
   refine WpOps.nil ?_
   obtain rfl := Sh.some_inj g_2
   exact ⟨rfl, rfl⟩
 intro env
 refine uA 1 rfl trivial ?_
 refine WpOps.nil ?_
 obtain rfl := Sh.some_inj h
 refine WpC.ret ?_
 exact uH rfl rfl ⟨rfl, hH⟩
theorem w_ifexpr_Defined_c2 {H0 : Heap} {i_1 : Int} {t1_1 : List GTok} {r : Bool} (h : ifexpr_Defined_c2 i_1 t1_1 = some r) : TCall Tryz.prog 33 [(iA i_1), (.rop [(AV.rows 6 (List.map cGTok t1_1))])] H0 (fun v H' => v = (bA r) ∧ H' = H0) noE := by
 refine id (TCall.body Tryz.func33 rfl rfl ?_)
 have hH : Holds H0 [] H0 := rfl
 refine uC ?_
 refine uA 1 rfl trivial ?_
 refine WpOps.nil ?_
 refine uC ?_
 refine uA 1 rfl trivial ?_
 refine uB (v := (AV.rows 6 (List.map cGTok t1_1))) rfl rfl (uG rfl rfl rfl) ?_
 refine uA 1 rfl trivial ?_
 refine uN 6 (len_map _ _) ?_
 refine uA 1 rfl trivial ?_
 obtain ⟨b_1, g_1, h⟩ := Sh.bind_some h
 refine uM 8 15 (bA b_1) rfl ?_ ?_
 ·
  refine uA 1 rfl trivial ?_
  refine uL 8 rfl (fun hb => ?_) (fun hb => ?_)
  ·
   replace g_1 := Sh.ite_pos hb g_1
   refine uB (v := (AV.rows 6 (List.map cGTok t1_1))) rfl rfl (uG rfl rfl rfl) ?_
   obtain ⟨y_1, hy_1, g_1⟩ := Sh.bind_some g_1
   refine uA 1 rfl trivial ?_
   refine uB (v := (.rop (cGTok y_1))) rfl rfl (uR cGTok hy_1 rfl rfl rfl rfl (by kernel_rfl) (by decide)) ?_
   refine uA 1 rfl trivial ?_
   refine uB (v := (iA y_1.kind)) rfl rfl (uG rfl rfl rfl) ?_
   refine uA 2 rfl trivial ?_
   refine WpOps.nil ?_
   obtain rfl := Sh.some_inj g_1
   exact ⟨rfl, rfl⟩
  ·
   replace g_1 := Sh.ite_neg hb g_1
   refine uA 7 rfl trivial ?_
   refine WpOps.nil ?_
   obtain rfl := Sh.some_inj g_1
   exact ⟨rfl, rfl⟩
 intro env
 refine uA 1 rfl trivial ?_
 refine WpOps.nil ?_
 obtain rfl := Sh.some_inj h
 refine WpC.ret ?_
 exact uH rfl rfl ⟨rfl, hH⟩
theorem w_slices_Index_Lstring_string {H0 : Heap} {s_1 : List (List UInt8)} {v_1 : List UInt8} {r : Int} (h : slices_Index_Lstring_string s_1 v_1 = some r) : TCall Tryz.prog 69 [(AV.rows 1 (List.map cS s_1)), (sA v_1)] H0 (fun v H' => v = (iA r) ∧ H' = H0) noE := by
 refine id (TCall.body Tryz.func69 rfl rfl ?_)
 have hH : Holds H0 [] H0 := rfl
 refine uC ?_
 refine uA 1 rfl trivial ?_
 refine WpOps.nil ?_
 refine WpC.seq ?_
 refine uC ?_
 refine uA 2 rfl trivial ?_
 refine uN 7 (len_map _ _) ?_
 refine uA 1 rfl trivial ?_
 refine WpOps.nil ?_
 refine vA (fun x : (Unit) × (Unit) => []) (fun x H' => slices_Index_Lstring_string_j1 x.1 = some r ∧ Holds H0 [] H') ?_ ?_
 ·
  obtain ⟨o_1, ho_1, hk_1⟩ := Sh.bind_some h
  refine uX (slices_Index_Lstring_string_b2 s_1 v_1) (fun (s : Int) (a : Unit) => [(0, (AV.rows 1 (List.map cS s_1))), (1, (sA v_1)), (7, (iA (s_1.length : Int))), (8, (iA s))]) (fun (s : Int) (a : Unit) H' => Holds H0 [] H') o_1 (0 : Int) () ho_1 ⟨rfl, rfl, rfl, rfl, trivial⟩ hH ?_
  rintro t8_1 _ st_1 env H' h hd_1 hH
  refine uC ?_
  refine uA 1 rfl trivial ?_
  refine WpOps.nil ?_
  refine WpC.seq ?_
  refine uF rfl (fun hb => ?_) (fun hb => ?_)
  ·
   replace h := Sh.ite_pos hb h
   refine uI ?_
   refine ⟨_, uD _, ?_⟩
   refine WpC.seq ?_
   refine WpC.block ?_
   refine uC ?_
   refine uA 2 rfl trivial ?_
   refine WpOps.nil ?_
   refine uC ?_
   obtain ⟨y_1, hy_1, h⟩ := Sh.bind_some h
   refine uA 3 rfl trivial ?_
   refine uB (v := (.rop (cS y_1))) rfl rfl (uR cS hy_1 rfl rfl rfl rfl (by kernel_rfl) (by decide)) ?_
   refine uB (v := (sA y_1)) rfl rfl (uG rfl rfl rfl) ?_
   refine uA 1 rfl trivial ?_
   refine WpOps.nil ?_
   refine uF rfl (fun hb => ?_) (fun hb => ?_)
   ·
    replace h := Sh.ite_pos hb h
    refine uC ?_
    refine uA 2 rfl trivial ?_
    refine WpOps.nil ?_
    obtain rfl := Sh.some_inj h
    have e := hd_1 _ rfl
    subst e
    have h := hk_1
    obtain rfl := Sh.some_inj h
    refine WpC.ret ?_
    exact uH rfl rfl ⟨rfl, hH⟩
   ·
    replace h := Sh.ite_neg hb h
    refine uI ?_
    refine ⟨_, uD _, ?_⟩
    refine uJ ?_
    obtain ⟨c_1, h⟩ := Sh.chk_some h
    refine uA 2 rfl c_1 ?_
    refine WpOps.nil ?_
    obtain rfl := Sh.some_inj h
    exact ⟨_, (uD _), (t8_1 + (1 : Int)), (), rfl, ⟨rfl, rfl, rfl, rfl, trivial⟩, hH⟩
  ·
   replace h := Sh.ite_neg hb h
   obtain rfl := Sh.some_inj h
   have e := hd_1 _ rfl
   subst e
   refine WpC.exit ?_
   exact ⟨((), ()), trivial, hk_1, hH⟩
 ·
  rintro ⟨_, _⟩ env H' ⟨h, hH⟩
  try dsimp only at h
  refine ⟨_, uD _, ?_⟩
  refine uC ?_
  refine uA 1 rfl trivial ?_
  refine WpOps.nil ?_
  obtain rfl := Sh.some_inj h
  refine WpC.ret ?_
  exact uH rfl rfl ⟨rfl, hH⟩
theorem w_slices_Contains_Lstring_string {H0 : Heap} {s_1 : List (List UInt8)} {v_1 : List UInt8} {r : Bool} (h : slices_Contains_Lstring_string s_1 v_1 = some r) : TCall Tryz.prog 34 [(AV.rows 1 (List.map cS s_1)), (sA v_1)] H0 (fun v H' => v = (bA r) ∧ H' = H0) noE := by
 refine id (TCall.body Tryz.func34 rfl rfl ?_)
 have hH : Holds H0 [] H0 := rfl
 refine uC ?_
 refine uA 1 rfl trivial ?_
 refine WpOps.nil ?_
 refine uC ?_
 obtain ⟨r_1, hr_1, h⟩ := Sh.bind_some h
 refine uA 2 rfl trivial ?_
 refine uB (v := (iA r_1)) rfl rfl (Exact.call rfl rfl rfl (w_slices_Index_Lstring_string hr_1)) ?_
 refine uA 2 rfl trivial ?_
 refine WpOps.nil ?_
 obtain rfl := Sh.some_inj h
 refine WpC.ret ?_
 exact uH rfl rfl ⟨rfl, hH⟩
end Go.Proofs.YtgmpeddopfnioaaGreatDoor
