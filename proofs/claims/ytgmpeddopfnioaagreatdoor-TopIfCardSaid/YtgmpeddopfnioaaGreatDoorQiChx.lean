/-
  Part of the proof of If.
-/
import Derived.Test.YtgmpeddopfnioaaGreatDoorQiLi
import Derived.Test.YtgmpeddopfnioaaGreatDoorQiTyzx
import Derived.Test.YtgmpeddopfnioaaGreatDoorQiShx

set_option linter.unusedVariables false
set_option linter.unusedSimpArgs false
set_option maxRecDepth 20000
namespace Go.Proofs.YtgmpeddopfnioaaGreatDoor
open Go Go.Vc Go.Sh
attribute [local irreducible] WpC WpOps WpPi WpO Exact TCall VEnds Sh.loopS
theorem w_chars_c1 {H0 : Heap} {g : Nat} {text : List UInt8} (hlen : text.length ≤ 9223372036854775807) (hg : H0 g = some (.cells 9 (cS text))) : TSeq Tryz.prog 98 [pB g] H0 ((charsAt 0 text).map fun x => [.agg (cGChar x)]) := by
 intro l J Jx hJ hY H h0
 refine TCall.body Tryz.func98 rfl rfl ?_
 refine uC ?_
 refine uA 1 rfl trivial ?_
 refine WpOps.nil ?_
 refine WpC.block ?_
 refine WpC.loop (fun n env H => ∃ i k : Nat, n = text.length - i ∧ i ≤ text.length ∧ knows env [(0, .clo (.yield l) [] []), (1, pB g), (3, iA i)] ∧ charsAt i (text.drop i) = (charsAt 0 text).drop k ∧ k ≤ (charsAt 0 text).length ∧ J k H) _ ⟨0, 0, rfl, Nat.zero_le _, ⟨rfl, rfl, rfl, trivial⟩, rfl, Nat.zero_le _, h0⟩ ?_
 rintro n env H ⟨i, k, rfl, hi, hk, hl, hkl, hj⟩
 rw [← hk.eq]
 have hcell := hJ k H hj g _ hg
 refine WpC.seq ?_
 refine uC ?_
 refine uA 1 rfl trivial ?_
 refine uB (v := sA text) rfl rfl (Exact.load rfl rfl hcell rfl rfl) ?_
 refine uA 2 rfl trivial ?_
 refine WpOps.nil ?_
 refine uF rfl (fun hb => ?_) (fun hb => ?_)
 ·have hlt : i < text.length := by simpa using hb
  refine WpC.skip ?_
  refine WpC.seq ?_
  refine WpC.block ?_
  refine WpC.seq ?_
  refine uC ?_
  refine uB (v := sA text) rfl rfl (Exact.load rfl rfl hcell rfl rfl) ?_
  refine uA 2 rfl (show 0 ≤ (i : Int) ∧ True ∧ (i : Int).toNat ≤ text.length from ⟨by omega, trivial, by omega⟩) ?_
  refine uB (v := bA (Lib.hasPrefix (text.drop i) [92, 10])) rfl rfl (Exact.call rfl rfl rfl (l_HasPrefix (text.drop i) [92, 10])) ?_
  refine WpOps.nil ?_
  refine uF rfl (fun hb => ?_) (fun hb => ?_)
  ·obtain ⟨h2, h3⟩ := charsAt_pair (i := i) hb
   refine uC ?_
   refine uA 3 rfl (show -9223372036854775808 ≤ (i : Int) + 1 ∧ (i : Int) + 1 ≤ 9223372036854775807 from ⟨by omega, by omega⟩) ?_
   refine WpOps.nil ?_
   refine WpC.exit ?_
   refine WpC.region ?_
   refine uA 3 rfl (show -9223372036854775808 ≤ (i : Int) + 1 + 1 ∧ (i : Int) + 1 + 1 ≤ 9223372036854775807 from ⟨by omega, by omega⟩) ?_
   refine WpOps.nil ?_
   exact ⟨text.length - (i + 2), by omega, i + 2, k, rfl, by omega, ⟨rfl, rfl, rfl, trivial⟩, by rw [← hl, h3], hkl, hj⟩
  ·obtain ⟨c, h2, h3⟩ := charsAt_one hlt hb
   have hs : (charsAt 0 text)[k]? = some ⟨c, i⟩ := by
    have h4 : ((charsAt 0 text).drop k)[0]? = some ⟨c, i⟩ := by rw [← hl, h3]; rfl
    simpa using h4
   have hd : (charsAt 0 text).drop (k + 1) = charsAt (i + 1 : Nat) (text.drop (i + 1)) := by
    have h4 : ((charsAt 0 text).drop k).drop 1 = charsAt (i + 1 : Nat) (text.drop (i + 1)) := by rw [← hl, h3]; rfl
    rw [← h4, List.drop_drop]
   refine WpC.skip ?_
   refine uC ?_
   refine uA 1 rfl trivial ?_
   refine uB (v := sA text) rfl rfl (Exact.load rfl rfl hcell rfl rfl) ?_
   refine uA 1 rfl trivial ?_
   refine uB (v := u8A c) rfl rfl (Exact.ixs (show Sh.ix text (i : Int) = some c by rw [Sh.ix_nat]; exact h2) rfl rfl rfl rfl) ?_
   refine uA 2 rfl trivial ?_
   refine uE rfl rfl (WpO.call_yield rfl rfl rfl ((hY k [.agg (cGChar ⟨c, i⟩)] H (by rw [List.getElem?_map, hs]; rfl) hj).mono ?_))
   rintro v H' (⟨rfl, hj'⟩ | ⟨rfl, hx⟩)
   ·refine uA 1 rfl trivial ?_
    refine WpOps.nil ?_
    refine wI rfl ?_
    refine WpC.skip ?_
    refine WpC.region ?_
    refine uA 3 rfl (show -9223372036854775808 ≤ (i : Int) + 1 ∧ (i : Int) + 1 ≤ 9223372036854775807 from ⟨by omega, by omega⟩) ?_
    refine WpOps.nil ?_
    exact ⟨text.length - (i + 1), by omega, i + 1, k + 1, rfl, by omega, ⟨rfl, rfl, rfl, trivial⟩, hd.symm, (List.getElem?_eq_some_iff.1 hs).1, hj'⟩
   ·refine uA 1 rfl trivial ?_
    refine WpOps.nil ?_
    refine WpC.condT rfl ?_
    refine WpC.ret ?_
    exact VEnds.ret0 rfl (.inr hx)
 ·have hge : i = text.length := by
   have : ¬ ((i : Int) < (text.length : Int)) := by simpa using hb
   omega
  refine WpC.exit ?_
  refine vW rfl (.inl ?_)
  have hnil : (charsAt 0 text).drop k = [] := by rw [← hl, hge, List.drop_length]; rfl
  have hk2 : (charsAt 0 text).length ≤ k := List.drop_eq_nil_iff.1 hnil
  rw [List.length_map, show (charsAt 0 text).length = k by omega]
  exact hj
theorem w_chars {text : List UInt8} (H : Heap) : TCall Tryz.prog 60 [sA text] H (fun v H' => ∃ g, H g = none ∧ v = .clo (.func 98) [] [pB g] ∧ H' = H.set g (.cells 9 (cS text))) noE := by
 refine TCall.body Tryz.func60 rfl rfl ?_
 have hH : Holds H [] H := rfl
 refine uC ?_
 refine uE rfl rfl (WpO.box (v := sA text) rfl rfl fun g hg => ?_)
 refine uA 1 rfl trivial ?_
 refine WpOps.nil ?_
 refine uC ?_
 refine uA 2 rfl trivial ?_
 refine WpOps.nil ?_
 refine WpC.ret ?_
 exact uH rfl rfl ⟨g, hg, rfl, rfl⟩
end Go.Proofs.YtgmpeddopfnioaaGreatDoor
set_option linter.unusedVariables false
set_option linter.unusedSimpArgs false
set_option maxRecDepth 20000
namespace Go.Proofs.YtgmpeddopfnioaaGreatDoor
open Go Go.Vc Go.Sh
attribute [local irreducible] WpC WpOps WpPi WpO Exact TCall VEnds Sh.loopS
def eP (p : Int × Int) : List AV := [iA p.1, iA p.2]
theorem w_pieces_c1 {H0 : Heap} {g : Nat} {l : List GTok} (hlen : l.length ≤ 9223372036854775806) (hg : H0 g = some (.cells 37 [.rows 6 (l.map cGTok)])) : TSeq Tryz.prog 109 [pB g] H0 ((piecesF 0 0 l).map eP) := by
 intro y J Jx hJ hY H h0
 refine TCall.body Tryz.func109 rfl rfl ?_
 refine uC ?_
 refine uA 1 rfl trivial ?_
 refine WpOps.nil ?_
 have hix : ∀ i, (h : i < l.length) → Sh.ix l (i : Int) = some l[i] := fun i h => by rw [Sh.ix_nat]; exact List.getElem?_eq_getElem h
 refine vG (α := Nat) (fun f => [(0, .clo (.yield y) [] []), (1, pB g), (3, iA f)]) (fun f H' => ∃ k : Nat, piecesF f l.length [] = (piecesF 0 0 l).drop k ∧ k ≤ (piecesF 0 0 l).length ∧ J k H') ?_ ?_
 ·have hcell := hJ 0 H h0 g _ hg
  refine uC ?_
  refine uB (v := .rows 6 (l.map cGTok)) rfl rfl (Exact.load rfl rfl hcell rfl rfl) ?_
  refine uA 1 rfl trivial ?_
  refine uN 7 (len_map _ _) ?_
  refine uA 1 rfl trivial ?_
  refine WpOps.nil ?_
  refine WpC.block ?_
  refine WpC.loop (fun n env H => ∃ i f k : Nat, n = l.length - i ∧ i ≤ l.length ∧ knows env [(0, .clo (.yield y) [] []), (1, pB g), (3, iA f), (6, .rows 6 (l.map cGTok)), (7, iA l.length), (8, iA i)] ∧ piecesF f i (l.drop i) = (piecesF 0 0 l).drop k ∧ k ≤ (piecesF 0 0 l).length ∧ J k H) _ ⟨0, 0, 0, rfl, Nat.zero_le _, ⟨rfl, rfl, rfl, rfl, rfl, rfl, trivial⟩, rfl, Nat.zero_le _, h0⟩ ?_
  rintro n env H ⟨i, f, k, rfl, hi, hk, hl, hkl, hj⟩
  rw [← hk.eq]
  have hcell := hJ k H hj g _ hg
  refine uC ?_
  refine uA 1 rfl trivial ?_
  refine WpOps.nil ?_
  refine WpC.seq ?_
  refine uF rfl (fun hb => ?_) (fun hb => ?_)
  ·have hlt : i < l.length := by simpa using hb
   have hd : l.drop i = l[i] :: l.drop (i + 1) := List.drop_eq_getElem_cons hlt
   have hH : Holds H [] H := rfl
   refine WpC.skip ?_
   refine WpC.seq ?_
   refine WpC.block ?_
   refine uC ?_
   refine uA 1 rfl trivial ?_
   refine uB (v := .rop (cGTok l[i])) rfl rfl (uR cGTok (hix i hlt) rfl rfl rfl rfl (by kernel_rfl) (by decide)) ?_
   refine uB (v := .agg (cGTok l[i])) rfl rfl (uG rfl rfl rfl) ?_
   refine uE rfl rfl (vC (z := cGTok (GTok.mk 0 [] 0 0 0 false)) rfl rfl hH fun g2 H' hH => ?_)
   refine uA 1 rfl trivial ?_
   refine uE rfl rfl (uQ (cs' := cGTok l[i]) (v := .agg (cGTok l[i])) rfl rfl hH (i := 0) rfl rfl rfl rfl rfl rfl rfl fun H' hH => ?_)
   refine WpOps.nil ?_
   refine WpC.seq ?_
   refine uC ?_
   refine uA 1 rfl trivial ?_
   refine uB (v := iA l[i].kind) rfl rfl (Exact.load rfl rfl (hH.cell (i := 0) rfl) rfl rfl) ?_
   refine uA 1 rfl trivial ?_
   refine WpOps.nil ?_
   refine uP (i := 0) hH rfl (fun H' hH => ?_)
   obtain rfl : H' = H := hH
   refine uF rfl (fun hb => ?_) (fun hb => ?_)
   ·have hne : ¬ l[i].kind = 7 := by simpa using hb
    refine WpC.exit ?_
    refine WpC.region ?_
    refine uA 2 rfl (show -9223372036854775808 ≤ (i : Int) + 1 ∧ (i : Int) + 1 ≤ 9223372036854775807 from ⟨by omega, by omega⟩) ?_
    refine WpOps.nil ?_
    exact ⟨l.length - (i + 1), by omega, i + 1, f, k, rfl, by omega, ⟨rfl, rfl, rfl, rfl, rfl, rfl, trivial⟩, by rw [← hl, hd]; exact (if_neg hne).symm, hkl, hj⟩
   ·have he : l[i].kind = 7 := by simpa using hb
    have hp : piecesF f i (l.drop i) = ((f : Int), (i : Int)) :: piecesF (i + 1) (i + 1) (l.drop (i + 1)) := by rw [hd]; exact if_pos he
    have hs : (piecesF 0 0 l)[k]? = some ((f : Int), (i : Int)) := by
     have h4 : ((piecesF 0 0 l).drop k)[0]? = some ((f : Int), (i : Int)) := by rw [← hl, hp]; rfl
     simpa using h4
    have hd2 : (piecesF 0 0 l).drop (k + 1) = piecesF (i + 1) (i + 1) (l.drop (i + 1)) := by
     have h4 : ((piecesF 0 0 l).drop k).drop 1 = piecesF (i + 1) (i + 1) (l.drop (i + 1)) := by rw [← hl, hp]; rfl
     rw [← h4, List.drop_drop]
    refine WpC.skip ?_
    refine WpC.seq ?_
    refine uC ?_
    refine uA 3 rfl trivial ?_
    refine uE rfl rfl (WpO.call_yield rfl rfl rfl ((hY k (eP ((f : Int), (i : Int))) H' (by rw [List.getElem?_map, hs]; rfl) hj).mono ?_))
    rintro v H2 (⟨rfl, hj'⟩ | ⟨rfl, hx⟩)
    ·refine uA 1 rfl trivial ?_
     refine WpOps.nil ?_
     refine wI rfl ?_
     refine WpC.skip ?_
     refine WpC.region ?_
     refine uA 3 rfl (show -9223372036854775808 ≤ (i : Int) + 1 ∧ (i : Int) + 1 ≤ 9223372036854775807 from ⟨by omega, by omega⟩) ?_
     refine WpOps.nil ?_
     refine WpC.region ?_
     refine uA 2 rfl (show -9223372036854775808 ≤ (i : Int) + 1 ∧ (i : Int) + 1 ≤ 9223372036854775807 from ⟨by omega, by omega⟩) ?_
     refine WpOps.nil ?_
     exact ⟨l.length - (i + 1), by omega, i + 1, i + 1, k + 1, rfl, by omega, ⟨rfl, rfl, rfl, rfl, rfl, rfl, trivial⟩, hd2.symm, (List.getElem?_eq_some_iff.1 hs).1, hj'⟩
    ·refine uA 1 rfl trivial ?_
     refine WpOps.nil ?_
     refine WpC.condT rfl ?_
     refine WpC.ret ?_
     exact VEnds.ret0 rfl (.inr hx)
  ·have hge : i = l.length := by
    have : ¬ ((i : Int) < (l.length : Int)) := by simpa using hb
    omega
   refine WpC.exit ?_
   exact ⟨f, ⟨rfl, rfl, rfl, trivial⟩, k, by rw [← hl, hge, List.drop_length], hkl, hj⟩
 ·rintro f env H ⟨k, hl, hkl, hj⟩
  have hcell := hJ k H hj g _ hg
  refine uC ?_
  refine uA 1 rfl trivial ?_
  refine uB (v := .rows 6 (l.map cGTok)) rfl rfl (Exact.load rfl rfl hcell rfl rfl) ?_
  refine uA 1 rfl trivial ?_
  refine uN 26 (len_map _ _) ?_
  refine uA 1 rfl trivial ?_
  refine WpOps.nil ?_
  refine uF rfl (fun hb => ?_) (fun hb => ?_)
  ·have hlt : f < l.length := by simpa using hb
   have hp : piecesF f l.length [] = [((f : Int), (l.length : Int))] := if_pos hlt
   have hs : (piecesF 0 0 l)[k]? = some ((f : Int), (l.length : Int)) := by
    have h4 : ((piecesF 0 0 l).drop k)[0]? = some ((f : Int), (l.length : Int)) := by rw [← hl, hp]; rfl
    simpa using h4
   have hd2 : (piecesF 0 0 l).drop (k + 1) = [] := by
    have h4 : ((piecesF 0 0 l).drop k).drop 1 = [] := by rw [← hl, hp]; rfl
    rw [← h4, List.drop_drop]
   have hk2 : (piecesF 0 0 l).length = k + 1 := by
    have h5 := List.drop_eq_nil_iff.1 hd2
    have h6 := (List.getElem?_eq_some_iff.1 hs).1
    omega
   refine WpC.region ?_
   refine uA 2 rfl trivial ?_
   refine uB (v := .rows 6 (l.map cGTok)) rfl rfl (Exact.load rfl rfl hcell rfl rfl) ?_
   refine uA 1 rfl trivial ?_
   refine uN 31 (len_map _ _) ?_
   refine uE rfl rfl (WpO.call_yield rfl rfl rfl ((hY k (eP ((f : Int), (l.length : Int))) H (by rw [List.getElem?_map, hs]; rfl) hj).mono ?_))
   rintro v H2 (⟨rfl, hj'⟩ | ⟨rfl, hx⟩)
   ·refine WpOps.nil ?_
    refine vW rfl (.inl ?_)
    rw [List.length_map, hk2]; exact hj'
   ·refine WpOps.nil ?_
    exact vW rfl (.inr hx)
  ·have hge : ¬ f < l.length := by simpa using hb
   have hp : piecesF f l.length [] = [] := if_neg hge
   have hk2 : (piecesF 0 0 l).length ≤ k := List.drop_eq_nil_iff.1 (by rw [← hl, hp])
   refine WpC.skip ?_
   refine vW rfl (.inl ?_)
   rw [List.length_map, show (piecesF 0 0 l).length = k by omega]
   exact hj
theorem w_pieces {l : List GTok} (H : Heap) : TCall Tryz.prog 89 [.rows 6 (l.map cGTok)] H (fun v H' => ∃ g, H g = none ∧ v = .clo (.func 109) [] [pB g] ∧ H' = H.set g (.cells 37 [.rows 6 (l.map cGTok)])) noE := by
 refine TCall.body Tryz.func89 rfl rfl ?_
 have hH : Holds H [] H := rfl
 refine uC ?_
 refine uE rfl rfl (WpO.box (v := .rows 6 (l.map cGTok)) rfl rfl fun g hg => ?_)
 refine uA 1 rfl trivial ?_
 refine WpOps.nil ?_
 refine uC ?_
 refine uA 2 rfl trivial ?_
 refine WpOps.nil ?_
 refine WpC.ret ?_
 exact uH rfl rfl ⟨g, hg, rfl, rfl⟩
end Go.Proofs.YtgmpeddopfnioaaGreatDoor
