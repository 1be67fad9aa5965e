/-
  slices.Backward of tokens and of tokens of choices; slices.Reverse of tokens. Printed by a tool.
-/
import Derived.Test.YtffgaoehhmgbjaaDoorEx
import Derived.Test.YtffgaoehhmgbjaaDoorPe
import Derived.Test.YtffgaoehhmgbjaaDoorBu
import Derived.Test.YtffgaoehhmgbjaaDoorChecked
set_option linter.unusedVariables false
set_option linter.unusedSimpArgs false
set_option maxRecDepth 20000
set_option maxHeartbeats 8000000
namespace Go.Proofs.YtffgaoehhmgbjaaDoor
open Go Go.Vc Go.Sh
attribute [local irreducible] WpC WpOps WpPi WpO Exact TCall VEnds Sh.loopS
/-- what a list yields from behind -/
def backLT (l : List GTok) : List (List AV) := (List.range l.length).map fun k => [iA ((l.length - 1 - k : Nat) : Int), .agg (cGTok (l.getD (l.length - 1 - k) (GTok.mk (0 : Int) ([] : List UInt8) (0 : Int) (0 : Int) (0 : Int) false)))]
theorem backLT_len (l : List GTok) : (backLT l).length = l.length := by unfold backLT; simp
theorem backLT_at (l : List GTok) (k : Nat) (h : k < l.length) : (backLT l)[k]? = some [iA ((l.length - 1 - k : Nat) : Int), .agg (cGTok l[l.length - 1 - k])] := by
  unfold backLT
  rw [List.getElem?_map, List.getElem?_range h]
  show some [iA ((l.length - 1 - k : Nat) : Int), AV.agg (cGTok (l.getD (l.length - 1 - k) (GTok.mk (0 : Int) ([] : List UInt8) (0 : Int) (0 : Int) (0 : Int) false)))] = _
  rw [List.getD_eq_getElem?_getD, List.getElem?_eq_getElem (show l.length - 1 - k < l.length by omega)]; rfl
theorem w_backT_c1 {H0 : Heap} {g : Nat} {l : List GTok} (hlen : l.length ≤ 9000000000000000000) (hg : H0 g = some (.cells 35 [.rows 6 (l.map cGTok)])) : TSeq Tryd.prog 66 [pB g] H0 (backLT l) := by
  intro y J Jx hJ hY H h0
  refine TCall.body Tryd.func66 rfl rfl ?_
  have hcell0 := hJ 0 H h0 g _ hg
  refine WpC.seqR ?_
  refine WpOps.consE (v := .rows 6 (l.map cGTok)) rfl rfl (Exact.load rfl rfl hcell0 rfl rfl) ?_
  refine WpOps.pn 1 rfl trivial ?_
  refine WpOps.at 5 (len_map _ _) ?_
  refine WpOps.pn 2 rfl (show -9223372036854775808 ≤ (l.length : Int) - 1 ∧ (l.length : Int) - 1 ≤ 9223372036854775807 from ⟨by omega, by omega⟩) ?_
  refine WpOps.nil ?_
  refine WpC.block ?_
  refine WpC.loop (fun n env H => ∃ k : Nat, n = l.length - k ∧ k ≤ l.length ∧ knows env [(0, .clo (.yield y) [] []), (1, pB g), (3, iA ((l.length : Int) - 1 - (k : Int)))] ∧ J k H) _ ⟨0, rfl, Nat.zero_le _, ⟨rfl, rfl, by rw [show (l.length : Int) - 1 - ((0 : Nat) : Int) = (l.length : Int) - 1 by omega]; rfl, trivial⟩, h0⟩ ?_
  rintro n env H ⟨k, rfl, hkl, hk, hj⟩
  rw [← hk.eq]
  have hcell := hJ k H hj g _ hg
  refine WpC.seq ?_
  refine WpC.seqR ?_
  refine WpOps.pn 2 rfl trivial ?_
  refine WpOps.nil ?_
  refine WpC.condB rfl (fun hb => ?_) (fun hb => ?_)
  · have hlt : k < l.length := by
      have : (0 : Int) ≤ (l.length : Int) - 1 - (k : Int) := by simpa using hb
      omega
    have e1 : (l.length : Int) - 1 - (k : Int) = ((l.length - 1 - k : Nat) : Int) := by omega
    have hix : Sh.ix l ((l.length : Int) - 1 - (k : Int)) = some l[l.length - 1 - k] := by rw [e1, Sh.ix_nat]; exact List.getElem?_eq_getElem (by omega)
    refine WpC.skip ?_
    refine WpC.seq ?_
    refine WpC.block ?_
    refine WpC.seqR ?_
    refine WpOps.pn 2 rfl trivial ?_
    refine WpOps.consE (v := .rows 6 (l.map cGTok)) rfl rfl (Exact.load rfl rfl hcell rfl rfl) ?_
    refine WpOps.pn 1 rfl trivial ?_
    refine WpOps.consE (v := .rop (cGTok l[l.length - 1 - k])) rfl rfl (Exact.ixr cGTok hix rfl rfl rfl rfl (by kernel_rfl) (by decide)) ?_
    refine WpOps.consE (v := .agg (cGTok l[l.length - 1 - k])) rfl rfl (Exact.load_rop rfl rfl rfl) ?_
    refine WpOps.consG rfl rfl (WpO.call_yield rfl rfl rfl ((hY k [iA ((l.length : Int) - 1 - (k : Int)), .agg (cGTok l[l.length - 1 - k])] H (by rw [backLT_at l k hlt, e1]) hj).mono ?_))
    rintro v H' (⟨rfl, hj'⟩ | ⟨rfl, hx⟩)
    · refine WpOps.pn 1 rfl trivial ?_
      refine WpOps.nil ?_
      refine WpC.condF rfl ?_
      refine WpC.skip ?_
      refine WpC.region ?_
      refine WpOps.pn 3 rfl (show -9223372036854775808 ≤ (l.length : Int) - 1 - (k : Int) - 1 ∧ (l.length : Int) - 1 - (k : Int) - 1 ≤ 9223372036854775807 from ⟨by omega, by omega⟩) ?_
      refine WpOps.nil ?_
      exact ⟨l.length - (k + 1), by omega, k + 1, rfl, by omega, ⟨rfl, rfl, by rw [show (l.length : Int) - 1 - ((k + 1 : Nat) : Int) = (l.length : Int) - 1 - (k : Int) - 1 by omega]; rfl, trivial⟩, hj'⟩
    · refine WpOps.pn 1 rfl trivial ?_
      refine WpOps.nil ?_
      refine WpC.condT rfl ?_
      refine WpC.ret ?_
      exact VEnds.ret0 rfl (.inr hx)
  · have hge : k = l.length := by
      have : ¬ (0 : Int) ≤ (l.length : Int) - 1 - (k : Int) := by simpa using hb
      omega
    subst hge
    refine WpC.exit ?_
    exact VEnds.end0 rfl (.inl (by rw [backLT_len]; exact hj))
theorem w_backT {l : List GTok} (H : Heap) : TCall Tryd.prog 56 [.rows 6 (l.map cGTok)] H (fun v H' => ∃ g, H g = none ∧ v = .clo (.func 66) [] [pB g] ∧ H' = H.set g (.cells 35 [.rows 6 (l.map cGTok)])) noE := by
  refine TCall.body Tryd.func56 rfl rfl ?_
  refine WpC.seqR ?_
  refine WpOps.consG rfl rfl (WpO.box rfl rfl fun g hg => ?_)
  refine WpOps.pn 1 rfl trivial ?_
  refine WpOps.nil ?_
  refine WpC.seqR ?_
  refine WpOps.pn 2 rfl trivial ?_
  refine WpOps.nil ?_
  refine WpC.ret ?_
  exact VEnds.ret1 rfl rfl ⟨g, hg, rfl, rfl⟩
/-- what a list yields from behind -/
def backLC (l : List GChoice_CTok) : List (List AV) := (List.range l.length).map fun k => [iA ((l.length - 1 - k : Nat) : Int), .agg (cGChoice_CTok (l.getD (l.length - 1 - k) (GChoice_CTok.mk (GTok.mk (0 : Int) ([] : List UInt8) (0 : Int) (0 : Int) (0 : Int) false) (0 : Int))))]
theorem backLC_len (l : List GChoice_CTok) : (backLC l).length = l.length := by unfold backLC; simp
theorem backLC_at (l : List GChoice_CTok) (k : Nat) (h : k < l.length) : (backLC l)[k]? = some [iA ((l.length - 1 - k : Nat) : Int), .agg (cGChoice_CTok l[l.length - 1 - k])] := by
  unfold backLC
  rw [List.getElem?_map, List.getElem?_range h]
  show some [iA ((l.length - 1 - k : Nat) : Int), AV.agg (cGChoice_CTok (l.getD (l.length - 1 - k) (GChoice_CTok.mk (GTok.mk (0 : Int) ([] : List UInt8) (0 : Int) (0 : Int) (0 : Int) false) (0 : Int))))] = _
  rw [List.getD_eq_getElem?_getD, List.getElem?_eq_getElem (show l.length - 1 - k < l.length by omega)]; rfl
theorem w_backC_c1 {H0 : Heap} {g : Nat} {l : List GChoice_CTok} (hlen : l.length ≤ 9000000000000000000) (hg : H0 g = some (.cells 31 [.rows 7 (l.map cGChoice_CTok)])) : TSeq Tryd.prog 65 [pB g] H0 (backLC l) := by
  intro y J Jx hJ hY H h0
  refine TCall.body Tryd.func65 rfl rfl ?_
  have hcell0 := hJ 0 H h0 g _ hg
  refine WpC.seqR ?_
  refine WpOps.consE (v := .rows 7 (l.map cGChoice_CTok)) rfl rfl (Exact.load rfl rfl hcell0 rfl rfl) ?_
  refine WpOps.pn 1 rfl trivial ?_
  refine WpOps.at 5 (len_map _ _) ?_
  refine WpOps.pn 2 rfl (show -9223372036854775808 ≤ (l.length : Int) - 1 ∧ (l.length : Int) - 1 ≤ 9223372036854775807 from ⟨by omega, by omega⟩) ?_
  refine WpOps.nil ?_
  refine WpC.block ?_
  refine WpC.loop (fun n env H => ∃ k : Nat, n = l.length - k ∧ k ≤ l.length ∧ knows env [(0, .clo (.yield y) [] []), (1, pB g), (3, iA ((l.length : Int) - 1 - (k : Int)))] ∧ J k H) _ ⟨0, rfl, Nat.zero_le _, ⟨rfl, rfl, by rw [show (l.length : Int) - 1 - ((0 : Nat) : Int) = (l.length : Int) - 1 by omega]; rfl, trivial⟩, h0⟩ ?_
  rintro n env H ⟨k, rfl, hkl, hk, hj⟩
  rw [← hk.eq]
  have hcell := hJ k H hj g _ hg
  refine WpC.seq ?_
  refine WpC.seqR ?_
  refine WpOps.pn 2 rfl trivial ?_
  refine WpOps.nil ?_
  refine WpC.condB rfl (fun hb => ?_) (fun hb => ?_)
  · have hlt : k < l.length := by
      have : (0 : Int) ≤ (l.length : Int) - 1 - (k : Int) := by simpa using hb
      omega
    have e1 : (l.length : Int) - 1 - (k : Int) = ((l.length - 1 - k : Nat) : Int) := by omega
    have hix : Sh.ix l ((l.length : Int) - 1 - (k : Int)) = some l[l.length - 1 - k] := by rw [e1, Sh.ix_nat]; exact List.getElem?_eq_getElem (by omega)
    refine WpC.skip ?_
    refine WpC.seq ?_
    refine WpC.block ?_
    refine WpC.seqR ?_
    refine WpOps.pn 2 rfl trivial ?_
    refine WpOps.consE (v := .rows 7 (l.map cGChoice_CTok)) rfl rfl (Exact.load rfl rfl hcell rfl rfl) ?_
    refine WpOps.pn 1 rfl trivial ?_
    refine WpOps.consE (v := .rop (cGChoice_CTok l[l.length - 1 - k])) rfl rfl (Exact.ixr cGChoice_CTok hix rfl rfl rfl rfl (by kernel_rfl) (by decide)) ?_
    refine WpOps.consE (v := .agg (cGChoice_CTok l[l.length - 1 - k])) rfl rfl (Exact.load_rop rfl rfl rfl) ?_
    refine WpOps.consG rfl rfl (WpO.call_yield rfl rfl rfl ((hY k [iA ((l.length : Int) - 1 - (k : Int)), .agg (cGChoice_CTok l[l.length - 1 - k])] H (by rw [backLC_at l k hlt, e1]) hj).mono ?_))
    rintro v H' (⟨rfl, hj'⟩ | ⟨rfl, hx⟩)
    · refine WpOps.pn 1 rfl trivial ?_
      refine WpOps.nil ?_
      refine WpC.condF rfl ?_
      refine WpC.skip ?_
      refine WpC.region ?_
      refine WpOps.pn 3 rfl (show -9223372036854775808 ≤ (l.length : Int) - 1 - (k : Int) - 1 ∧ (l.length : Int) - 1 - (k : Int) - 1 ≤ 9223372036854775807 from ⟨by omega, by omega⟩) ?_
      refine WpOps.nil ?_
      exact ⟨l.length - (k + 1), by omega, k + 1, rfl, by omega, ⟨rfl, rfl, by rw [show (l.length : Int) - 1 - ((k + 1 : Nat) : Int) = (l.length : Int) - 1 - (k : Int) - 1 by omega]; rfl, trivial⟩, hj'⟩
    · refine WpOps.pn 1 rfl trivial ?_
      refine WpOps.nil ?_
      refine WpC.condT rfl ?_
      refine WpC.ret ?_
      exact VEnds.ret0 rfl (.inr hx)
  · have hge : k = l.length := by
      have : ¬ (0 : Int) ≤ (l.length : Int) - 1 - (k : Int) := by simpa using hb
      omega
    subst hge
    refine WpC.exit ?_
    exact VEnds.end0 rfl (.inl (by rw [backLC_len]; exact hj))
theorem w_backC {l : List GChoice_CTok} (H : Heap) : TCall Tryd.prog 55 [.rows 7 (l.map cGChoice_CTok)] H (fun v H' => ∃ g, H g = none ∧ v = .clo (.func 65) [] [pB g] ∧ H' = H.set g (.cells 31 [.rows 7 (l.map cGChoice_CTok)])) noE := by
  refine TCall.body Tryd.func55 rfl rfl ?_
  refine WpC.seqR ?_
  refine WpOps.consG rfl rfl (WpO.box rfl rfl fun g hg => ?_)
  refine WpOps.pn 1 rfl trivial ?_
  refine WpOps.nil ?_
  refine WpC.seqR ?_
  refine WpOps.pn 2 rfl trivial ?_
  refine WpOps.nil ?_
  refine WpC.ret ?_
  exact VEnds.ret1 rfl rfl ⟨g, hg, rfl, rfl⟩
theorem own_rev (l : List GTok) (p : Option (Nat × Nat)) : AV.own (l.map cGTok).length p = .own ((l.reverse).map cGTok).length p := by rw [List.length_map, List.length_map, List.length_reverse]
theorem rev_set {α : Type} (l R : List α) (i : Nat) (hR : R.length = l.length) (hi : i < l.length - 1 - i) (h : ∀ k (hk : k < l.length), R[k]? = some (if k < i ∨ l.length - i ≤ k then l[l.length - 1 - k] else l[k])) :
    ∀ k (hk : k < l.length), ((R.set i l[l.length - 1 - i]).set (l.length - 1 - i) l[i])[k]? = some (if k < i + 1 ∨ l.length - (i + 1) ≤ k then l[l.length - 1 - k] else l[k]) := by
  intro k hk
  rw [List.getElem?_set, List.getElem?_set]
  by_cases e1 : l.length - 1 - i = k
  · subst e1
    rw [if_pos rfl, if_pos (by rw [List.length_set]; omega), if_pos (by omega)]
    simp only [show l.length - 1 - (l.length - 1 - i) = i by omega]
  · rw [if_neg e1]
    by_cases e2 : i = k
    · subst e2
      rw [if_pos rfl, if_pos (by omega), if_pos (by omega)]
    · rw [if_neg e2, h k hk]
      congr 1
      by_cases e3 : k < i ∨ l.length - i ≤ k
      · rw [if_pos e3, if_pos (by omega)]
      · rw [if_neg e3, if_neg (by omega)]
theorem w_revP {g c t : Nat} {l : List GTok} {H1 H : Heap} (hl : l.length ≤ 4611686018427387904) (hH : Holds H1 [.own t 6 (some (g, c)) (l.map cGTok)] H) : TCall Tryd.prog 39 [.own (l.map cGTok).length (some (g, c))] H (fun v H' => v = .tup [] ∧ Holds H1 [.own t 6 (some (g, c)) (l.reverse.map cGTok)] H') noE := by
  refine TCall.body Tryd.func39 rfl rfl ?_
  refine WpC.seqR ?_
  refine WpOps.pn 2 rfl trivial ?_
  refine WpOps.at 5 (len_map _ _) ?_
  refine WpOps.pn 3 rfl (show -9223372036854775808 ≤ (l.length : Int) - 1 ∧ (l.length : Int) - 1 ≤ 9223372036854775807 from ⟨by omega, by omega⟩) ?_
  refine WpOps.nil ?_
  refine WpC.block ?_
  refine WpC.loop (fun n env H => ∃ (i : Nat) (R : List GTok), n = l.length - i ∧ i ≤ l.length ∧ R.length = l.length ∧ (∀ k (hk : k < l.length), R[k]? = some (if k < i ∨ l.length - i ≤ k then l[l.length - 1 - k] else l[k])) ∧ knows env [(0, .own (R.map cGTok).length (some (g, c))), (2, iA i), (3, iA ((l.length : Int) - 1 - (i : Int)))] ∧ Holds H1 [.own t 6 (some (g, c)) (R.map cGTok)] H) _
    ⟨0, l, rfl, Nat.zero_le _, rfl, fun k hk => by rw [if_neg (by omega), List.getElem?_eq_getElem hk], ⟨rfl, rfl, by rw [show (l.length : Int) - 1 - ((0 : Nat) : Int) = (l.length : Int) - 1 by omega]; rfl, trivial⟩, hH⟩ ?_
  clear hH
  rintro n env H ⟨i, R, rfl, hi, hR, h1, hk, hH⟩
  rw [← hk.eq]
  refine WpC.seq ?_
  refine WpC.seqR ?_
  refine WpOps.pn 3 rfl trivial ?_
  refine WpOps.nil ?_
  refine WpC.condB rfl (fun hb => ?_) (fun hb => ?_)
  · have hlt : i < l.length - 1 - i := by
      have : (i : Int) < (l.length : Int) - 1 - (i : Int) := by simpa using hb
      omega
    have e1 : (l.length : Int) - 1 - (i : Int) = ((l.length - 1 - i : Nat) : Int) := by omega
    have hRi : Sh.ix R (i : Int) = some l[i] := by rw [Sh.ix_nat, h1 i (by omega), if_neg (by omega)]
    have hRj : Sh.ix R ((l.length : Int) - 1 - (i : Int)) = some l[l.length - 1 - i] := by
      rw [e1, Sh.ix_nat, h1 _ (by omega), if_neg (by omega)]
    have hR2 : Sh.ix (R.set i l[l.length - 1 - i]) ((l.length : Int) - 1 - (i : Int)) = some l[l.length - 1 - i] := by
      rw [e1, Sh.ix_nat, List.getElem?_set_ne (by omega)]; rw [e1, Sh.ix_nat] at hRj; exact hRj
    refine WpC.skip ?_
    refine WpC.seq ?_
    refine WpC.block ?_
    refine WpC.draw [.I, .I, .I, .I, .I, .I, .S, .S, .I, .I, .S, .S, .S, .E, .S, .E] [0, 1, 2, 3, 4, 5, 6, 7, 8, 9, 10, 11, 12, 13, 14, 15] (by kernel_rfl) (by kernel_rfl) ?_
    refine WpPi.pn 6 rfl trivial ?_
    refine WpPi.consS rfl rfl rfl rfl (Exact.ixo (size := 6) cGTok hRj rfl rfl rfl rfl (by kernel_rfl) (by decide)) ?_
    refine WpPi.consS (v := .agg (cGTok l[l.length - 1 - i])) rfl rfl rfl rfl (Exact.ldo (off := 0) (i := 0) cGTok hRj hH rfl rfl rfl (by decide) rfl) ?_
    refine WpPi.pn 2 rfl trivial ?_
    refine WpPi.consS rfl rfl rfl rfl (Exact.ixo (size := 6) cGTok hRi rfl rfl rfl rfl (by kernel_rfl) (by decide)) ?_
    refine WpPi.consS (v := .agg (cGTok l[i])) rfl rfl rfl rfl (Exact.ldo (off := 0) (i := 0) cGTok hRi hH rfl rfl rfl (by decide) rfl) ?_
    refine WpPi.consS rfl rfl rfl rfl (Exact.ixo (size := 6) cGTok hRi rfl rfl rfl rfl (by kernel_rfl) (by decide)) ?_
    refine WpPi.consE rfl rfl rfl rfl (WpO.setT (off := 0) (i := 0) cGTok (y' := l[l.length - 1 - i]) (v := .agg (cGTok l[l.length - 1 - i])) hRi hH rfl rfl rfl rfl rfl rfl rfl rfl rfl fun H' hH => ?_)
    refine WpPi.at 0 (own_set cGTok R (i : Int).toNat l[l.length - 1 - i] _) ?_
    refine WpPi.at 16 (own_set cGTok R (i : Int).toNat l[l.length - 1 - i] _) ?_
    refine WpPi.consS rfl rfl rfl rfl (Exact.ixo (size := 6) cGTok hR2 rfl rfl rfl rfl (by kernel_rfl) (by decide)) ?_
    refine WpPi.consE rfl rfl rfl rfl (WpO.setT (off := 0) (i := 0) cGTok (y' := l[i]) (v := .agg (cGTok l[i])) hR2 hH rfl rfl rfl rfl rfl rfl rfl rfl rfl fun H' hH => ?_)
    refine WpPi.at 0 (own_set cGTok (R.set i l[l.length - 1 - i]) ((l.length : Int) - 1 - (i : Int)).toNat l[i] _) ?_
    refine WpPi.nil ?_
    refine WpC.region ?_
    refine WpOps.pn 6 rfl (show (-9223372036854775808 ≤ (l.length : Int) - 1 - (i : Int) - 1 ∧ (l.length : Int) - 1 - (i : Int) - 1 ≤ 9223372036854775807) ∧ (-9223372036854775808 ≤ (i : Int) + 1 ∧ (i : Int) + 1 ≤ 9223372036854775807) from ⟨⟨by omega, by omega⟩, by omega, by omega⟩) ?_
    refine WpOps.nil ?_
    have e3 : ((l.length : Int) - 1 - (i : Int)).toNat = l.length - 1 - i := by omega
    rw [e3] at hH
    refine ⟨l.length - (i + 1), by omega, i + 1, _, rfl, by omega, by rw [List.length_set, List.length_set]; exact hR, rev_set l R i hR hlt h1, ⟨by rw [e3]; rfl, rfl, by rw [show (l.length : Int) - 1 - ((i + 1 : Nat) : Int) = (l.length : Int) - 1 - (i : Int) - 1 by omega]; rfl, trivial⟩, hH⟩
  · have hge : ¬ i < l.length - 1 - i := by
      have : ¬ (i : Int) < (l.length : Int) - 1 - (i : Int) := by simpa using hb
      omega
    have e : R = l.reverse := by
      apply List.ext_getElem?
      intro k
      by_cases hk : k < l.length
      · rw [h1 k hk, List.getElem?_reverse hk, List.getElem?_eq_getElem (by omega)]
        congr 1
        by_cases hc : k < i ∨ l.length - i ≤ k
        · rw [if_pos hc]
        · rw [if_neg hc]
          have : l.length - 1 - k = k := by omega
          simp only [this]
      · rw [List.getElem?_eq_none (by omega), List.getElem?_eq_none (by rw [List.length_reverse]; omega)]
    subst e
    refine WpC.exit ?_
    exact VEnds.end0 rfl ⟨rfl, hH⟩
theorem w_revT {t : Nat} {l : List GTok} {H1 H : Heap} {p : Option (Nat × Nat)} (hl : l.length < 4611686018427387904) (hH : Holds H1 [.own t 6 p (l.map cGTok)] H) : TCall Tryd.prog 39 [.own (l.map cGTok).length p] H (fun v H' => v = .tup [] ∧ Holds H1 [.own t 6 p (l.reverse.map cGTok)] H') noE := by
  cases p with
  | some q => obtain ⟨g, c⟩ := q; exact w_revP (Nat.le_of_lt hl) hH
  | none =>
    have hn : l = [] := by
      rcases Own.inv hH.one_inv with ⟨_, e, _⟩ | ⟨g, c, e, _⟩
      · simpa using e
      · cases e
    subst hn
    refine TCall.body Tryd.func39 rfl rfl ?_
    refine WpC.seqR ?_
    refine WpOps.pn 5 rfl (show -9223372036854775808 ≤ (((([] : List GTok).map cGTok).length : Nat) : Int) - 1 ∧ (((([] : List GTok).map cGTok).length : Nat) : Int) - 1 ≤ 9223372036854775807 from ⟨by simp, by simp⟩) ?_
    refine WpOps.nil ?_
    refine WpC.block ?_
    refine WpC.loop (fun n env H' => knows env [(2, iA (0 : Int)), (3, iA (-1 : Int))] ∧ H' = H) 0 ⟨⟨rfl, rfl, trivial⟩, rfl⟩ ?_
    rintro n env H' ⟨hk, rfl⟩
    rw [← hk.eq]
    refine WpC.seq ?_
    refine WpC.seqR ?_
    refine WpOps.pn 3 rfl trivial ?_
    refine WpOps.nil ?_
    refine WpC.condF rfl ?_
    refine WpC.exit ?_
    exact VEnds.end0 rfl ⟨rfl, hH⟩
end Go.Proofs.YtffgaoehhmgbjaaDoor
