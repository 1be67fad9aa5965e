/-
  splice.chars yields what is left of a text without pairs. (Numbers filled by a tool.)
-/
import Derived.Test.YtffgaoehhmgbjaaDoorLi
import Derived.Test.YtffgaoehhmgbjaaDoorPe
import Derived.Test.YtffgaoehhmgbjaaDoorZs
set_option linter.unusedVariables false
set_option linter.unusedSimpArgs false
set_option maxRecDepth 20000
namespace Go.Proofs.YtffgaoehhmgbjaaDoor
open Go Go.Vc Go.Sh
attribute [local irreducible] WpC WpOps WpPi WpO Exact TCall VEnds Sh.loopS
theorem w_chars_c1 {H0 : Heap} {g : Nat} {text : List UInt8} (hlen : text.length ≤ 9223372036854775807) (hg : H0 g = some (.cells 9 (cS text))) : TSeq Tryd.prog 59 [pB g] H0 ((charsAt 0 text).map fun x => [.agg (cGChar x)]) := by
  intro l J Jx hJ hY H h0
  refine TCall.body Tryd.func59 rfl rfl ?_
  refine WpC.seqR ?_
  refine WpOps.pn 1 rfl trivial ?_
  refine WpOps.nil ?_
  refine WpC.block ?_
  refine WpC.loop (fun n env H => ∃ i k : Nat, n = text.length - i ∧ i ≤ text.length ∧ knows env [(0, .clo (.yield l) [] []), (1, pB g), (3, iA i)] ∧ charsAt i (text.drop i) = (charsAt 0 text).drop k ∧ k ≤ (charsAt 0 text).length ∧ J k H) _ ⟨0, 0, rfl, Nat.zero_le _, ⟨rfl, rfl, rfl, trivial⟩, rfl, Nat.zero_le _, h0⟩ ?_
  rintro n env H ⟨i, k, rfl, hi, hk, hl, hkl, hj⟩
  rw [← hk.eq]
  have hcell := hJ k H hj g _ hg
  refine WpC.seq ?_
  refine WpC.seqR ?_
  refine WpOps.pn 1 rfl trivial ?_
  refine WpOps.consE (v := sA text) rfl rfl (Exact.load rfl rfl hcell rfl rfl) ?_
  refine WpOps.pn 2 rfl trivial ?_
  refine WpOps.nil ?_
  refine WpC.condB rfl (fun hb => ?_) (fun hb => ?_)
  · have hlt : i < text.length := by simpa using hb
    refine WpC.skip ?_
    refine WpC.seq ?_
    refine WpC.block ?_
    refine WpC.seq ?_
    refine WpC.seqR ?_
    refine WpOps.consE (v := sA text) rfl rfl (Exact.load rfl rfl hcell rfl rfl) ?_
    refine WpOps.pn 2 rfl (show 0 ≤ (i : Int) ∧ True ∧ (i : Int).toNat ≤ text.length from ⟨by omega, trivial, by omega⟩) ?_
    refine WpOps.consE (v := bA (Lib.hasPrefix (text.drop i) [92, 10])) rfl rfl (Exact.call rfl rfl rfl (l_HasPrefix (text.drop i) [92, 10])) ?_
    refine WpOps.nil ?_
    refine WpC.condB rfl (fun hb => ?_) (fun hb => ?_)
    · obtain ⟨h2, h3⟩ := charsAt_pair (i := i) hb
      refine WpC.seqR ?_
      refine WpOps.pn 3 rfl (show -9223372036854775808 ≤ (i : Int) + 1 ∧ (i : Int) + 1 ≤ 9223372036854775807 from ⟨by omega, by omega⟩) ?_
      refine WpOps.nil ?_
      refine WpC.exit ?_
      refine WpC.region ?_
      refine WpOps.pn 3 rfl (show -9223372036854775808 ≤ (i : Int) + 1 + 1 ∧ (i : Int) + 1 + 1 ≤ 9223372036854775807 from ⟨by omega, by omega⟩) ?_
      refine WpOps.nil ?_
      exact ⟨text.length - (i + 2), by omega, i + 2, k, rfl, by omega, ⟨rfl, rfl, rfl, trivial⟩, by rw [← hl, h3], hkl, hj⟩
    · obtain ⟨c, h2, h3⟩ := charsAt_one hlt hb
      have hs : (charsAt 0 text)[k]? = some ⟨c, i⟩ := by
        have h4 : ((charsAt 0 text).drop k)[0]? = some ⟨c, i⟩ := by rw [← hl, h3]; rfl
        simpa using h4
      have hd : (charsAt 0 text).drop (k + 1) = charsAt (i + 1 : Nat) (text.drop (i + 1)) := by
        have h4 : ((charsAt 0 text).drop k).drop 1 = charsAt (i + 1 : Nat) (text.drop (i + 1)) := by rw [← hl, h3]; rfl
        rw [← h4, List.drop_drop]
      refine WpC.skip ?_
      refine WpC.seqR ?_
      refine WpOps.pn 1 rfl trivial ?_
      refine WpOps.consE (v := sA text) rfl rfl (Exact.load rfl rfl hcell rfl rfl) ?_
      refine WpOps.pn 1 rfl trivial ?_
      refine WpOps.consE (v := u8A c) rfl rfl (Exact.ixs (show Sh.ix text (i : Int) = some c by rw [Sh.ix_nat]; exact h2) rfl rfl rfl rfl) ?_
      refine WpOps.pn 2 rfl trivial ?_
      refine WpOps.consG rfl rfl (WpO.call_yield rfl rfl rfl ((hY k [.agg (cGChar ⟨c, i⟩)] H (by rw [List.getElem?_map, hs]; rfl) hj).mono ?_))
      rintro v H' (⟨rfl, hj'⟩ | ⟨rfl, hx⟩)
      · refine WpOps.pn 1 rfl trivial ?_
        refine WpOps.nil ?_
        refine WpC.condF rfl ?_
        refine WpC.skip ?_
        refine WpC.region ?_
        refine WpOps.pn 3 rfl (show -9223372036854775808 ≤ (i : Int) + 1 ∧ (i : Int) + 1 ≤ 9223372036854775807 from ⟨by omega, by omega⟩) ?_
        refine WpOps.nil ?_
        exact ⟨text.length - (i + 1), by omega, i + 1, k + 1, rfl, by omega, ⟨rfl, rfl, rfl, trivial⟩, hd.symm, (List.getElem?_eq_some_iff.1 hs).1, hj'⟩
      · refine WpOps.pn 1 rfl trivial ?_
        refine WpOps.nil ?_
        refine WpC.condT rfl ?_
        refine WpC.ret ?_
        exact VEnds.ret0 rfl (.inr hx)
  · have hge : i = text.length := by
      have : ¬ ((i : Int) < (text.length : Int)) := by simpa using hb
      omega
    refine WpC.exit ?_
    refine VEnds.end0 rfl (.inl ?_)
    have hnil : (charsAt 0 text).drop k = [] := by rw [← hl, hge, List.drop_length]; rfl
    have hk2 : (charsAt 0 text).length ≤ k := List.drop_eq_nil_iff.1 hnil
    rw [List.length_map, show (charsAt 0 text).length = k by omega]
    exact hj
theorem w_chars {text : List UInt8} (H : Heap) : TCall Tryd.prog 45 [sA text] H (fun v H' => ∃ g, H g = none ∧ v = .clo (.func 59) [] [pB g] ∧ H' = H.set g (.cells 9 (cS text))) noE := by
  refine TCall.body Tryd.func45 rfl rfl ?_
  have hH : Holds H [] H := rfl
  refine WpC.seqR ?_
  refine WpOps.consG rfl rfl (WpO.box (v := sA text) rfl rfl fun g hg => ?_)
  refine WpOps.pn 1 rfl trivial ?_
  refine WpOps.nil ?_
  refine WpC.seqR ?_
  refine WpOps.pn 2 rfl trivial ?_
  refine WpOps.nil ?_
  refine WpC.ret ?_
  exact VEnds.ret1 rfl rfl ⟨g, hg, rfl, rfl⟩
end Go.Proofs.YtffgaoehhmgbjaaDoor
