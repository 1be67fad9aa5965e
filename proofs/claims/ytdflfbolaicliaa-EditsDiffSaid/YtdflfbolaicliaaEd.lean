/-
  slices.IndexFunc and slices.DeleteFunc on edits. Printed by a tool.
-/
import Derived.Test.YtdflfbolaicliaaSi
import Derived.Test.YtdflfbolaicliaaEx
import Derived.Test.YtdflfbolaicliaaChecked
set_option linter.unusedVariables false
set_option linter.unusedSimpArgs false
set_option maxRecDepth 20000
set_option maxHeartbeats 8000000
namespace Go.Proofs.Ytdflfbolaicliaa
open Go Go.Vc Go.Sh
theorem own_sortE (l : List GEdit) (p : Option (Nat × Nat)) : AV.own (l.map cGEdit).length p = .own ((sortE l).map cGEdit).length p := by rw [List.length_map, List.length_map, sortE_len]
theorem own_sortI (l : List Int) (p : Option (Nat × Nat)) : AV.own (l.map cI).length p = .own ((sortI l).map cI).length p := by rw [List.length_map, List.length_map, sortI_len]
attribute [local irreducible] WpC WpOps WpPi WpO Exact TCall VEnds Sh.loopS
def idxE (p : GEdit → Bool) : Nat → List GEdit → Int
  | _, [] => -1
  | k, y :: r => if p y = true then (k : Int) else idxE p (k + 1) r
theorem idxE_none (p : GEdit → Bool) : ∀ (l : List GEdit) (k : Nat), idxE p k l = -1 → l.filter (fun y => !p y) = l
  | [], _, _ => rfl
  | y :: r, k, h => by
    unfold idxE at h
    by_cases hp : p y = true
    · rw [if_pos hp] at h; omega
    · rw [if_neg hp] at h
      rw [List.filter_cons, idxE_none p r (k + 1) h]; simp [hp]
theorem idxE_some (p : GEdit → Bool) : ∀ (l : List GEdit) (k : Nat), idxE p k l ≠ -1 → ∃ j, ∃ h : j < l.length, idxE p k l = ((k + j : Nat) : Int) ∧ p l[j] = true ∧ (l.take j).filter (fun y => !p y) = l.take j
  | [], _, h => (h rfl).elim
  | y :: r, k, h => by
    unfold idxE at h ⊢
    by_cases hp : p y = true
    · rw [if_pos hp]; exact ⟨0, by simp, by simp, hp, rfl⟩
    · rw [if_neg hp] at h ⊢
      obtain ⟨j, hj, e, h1, h2⟩ := idxE_some p r (k + 1) h
      refine ⟨j + 1, by simpa using hj, by rw [e]; congr 1; omega, by simpa using h1, ?_⟩
      rw [List.take_succ_cons, List.filter_cons, h2]; simp [hp]
theorem idxE_drop (p : GEdit → Bool) (l : List GEdit) (j : Nat) (h : j < l.length) : idxE p j (l.drop j) = if p l[j] = true then (j : Int) else idxE p (j + 1) (l.drop (j + 1)) := by
  rw [List.drop_eq_getElem_cons h]; rfl
theorem w_IndexFuncE {fd : Nat} {c0 : AV} {p : GEdit → Bool} (he : enterable Try.prog fd = true) {H : Heap} {l : List GEdit} (hd : ∀ H, ∀ y ∈ l, TCall Try.prog fd [.agg (cGEdit y), c0] H (fun v H' => v = bA (p y) ∧ H' = H) noE) (hl : l.length ≤ 9223372036854775806) :
    TCall Try.prog 42 [.rows 4 (l.map cGEdit), .clo (.func fd) [] [c0]] H (fun v H' => v = iA (idxE p 0 l) ∧ H' = H) noE := by
  refine TCall.body Try.func42 rfl rfl ?_
  have hix : ∀ i, (h : i < l.length) → Sh.ix l (i : Int) = some l[i] := fun i h => by rw [Sh.ix_nat]; exact List.getElem?_eq_getElem h
  refine WpC.seqR ?_
  refine WpOps.pn 1 rfl trivial ?_
  refine WpOps.nil ?_
  refine WpC.seq ?_
  refine WpC.seqR ?_
  refine WpOps.pn 2 rfl trivial ?_
  refine WpOps.at 7 (len_map _ _) ?_
  refine WpOps.pn 1 rfl trivial ?_
  refine WpOps.nil ?_
  refine WpC.block ?_
  refine WpC.loop (fun n env H' => ∃ (j : Nat), n = l.length - j ∧ j ≤ l.length ∧ knows env [(0, .rows 4 (l.map cGEdit)), (1, .clo (.func fd) [] [c0]), (7, iA l.length), (8, iA j)] ∧ idxE p j (l.drop j) = idxE p 0 l ∧ H' = H) _ ⟨0, rfl, Nat.zero_le _, ⟨rfl, rfl, rfl, rfl, trivial⟩, rfl, rfl⟩ ?_
  rintro n env H ⟨j, rfl, hj, hk, hv, rfl⟩
  rw [← hk.eq]
  refine WpC.seqR ?_
  refine WpOps.pn 1 rfl trivial ?_
  refine WpOps.nil ?_
  refine WpC.seq ?_
  refine WpC.condB rfl (fun hb => ?_) (fun hb => ?_)
  · have hlt : j < l.length := by simpa using hb
    rw [idxE_drop p l j hlt] at hv
    refine WpC.skip ?_
    refine WpC.seq ?_
    refine WpC.block ?_
    refine WpC.seqR ?_
    refine WpOps.pn 2 rfl trivial ?_
    refine WpOps.nil ?_
    refine WpC.seqR ?_
    refine WpOps.pn 3 rfl trivial ?_
    refine WpOps.consE (v := .rop (cGEdit l[j])) rfl rfl (Exact.ixr cGEdit (hix j hlt) rfl rfl rfl rfl (by kernel_rfl) (by decide)) ?_
    refine WpOps.consE (v := .agg (cGEdit l[j])) rfl rfl (Exact.load_rop rfl rfl rfl) ?_
    refine WpOps.consE (v := bA (p l[j])) rfl rfl (Exact.call_clo rfl rfl he (forceL_eq _ _) (hd _ _ (List.getElem_mem _))) ?_
    refine WpOps.nil ?_
    refine WpC.condB rfl (fun hb2 => ?_) (fun hb2 => ?_)
    · rw [if_pos hb2] at hv
      refine WpC.seqR ?_
      refine WpOps.pn 2 rfl trivial ?_
      refine WpOps.nil ?_
      refine WpC.ret ?_
      exact VEnds.ret1 rfl rfl ⟨by rw [← hv], rfl⟩
    · rw [if_neg (by rw [hb2]; simp)] at hv
      refine WpC.skip ?_
      refine WpC.region ?_
      refine WpOps.pn 2 rfl (show -9223372036854775808 ≤ (j : Int) + 1 ∧ (j : Int) + 1 ≤ 9223372036854775807 from ⟨by omega, by omega⟩) ?_
      refine WpOps.nil ?_
      exact ⟨l.length - (j + 1), by omega, j + 1, rfl, by omega, ⟨rfl, rfl, rfl, rfl, trivial⟩, hv, rfl⟩
  · have hge : j = l.length := by
      have : ¬ ((j : Int) < (l.length : Int)) := by simpa using hb
      omega
    rw [hge, List.drop_length] at hv
    refine WpC.exit ?_
    refine WpC.seqR ?_
    refine WpOps.pn 1 rfl trivial ?_
    refine WpOps.nil ?_
    refine WpC.ret ?_
    exact VEnds.ret1 rfl rfl ⟨by rw [← hv]; rfl, rfl⟩
theorem w_DeleteFuncP {fd : Nat} {c0 : AV} {p : GEdit → Bool} (he : enterable Try.prog fd = true) {H1 H : Heap} {l : List GEdit} {q : Option (Nat × Nat)} (hd : ∀ H, ∀ y ∈ l, TCall Try.prog fd [.agg (cGEdit y), c0] H (fun v H' => v = bA (p y) ∧ H' = H) noE) (hl : l.length ≤ 9223372036854775806) (hH : Holds H1 [.own 49 4 q (l.map cGEdit)] H) :
    TCall Try.prog 24 [.own (l.map cGEdit).length q, .clo (.func fd) [] [c0]] H (fun v H' => v = .own ((l.filter fun y => !p y).map cGEdit).length q ∧ Holds H1 [.own 49 4 q ((l.filter fun y => !p y).map cGEdit)] H') noE := by
  refine TCall.body Try.func24 rfl rfl ?_
  refine WpC.seqR ?_
  refine WpOps.pn 1 rfl trivial ?_
  refine WpOps.nil ?_
  refine WpC.seqR ?_
  refine WpOps.pn 2 rfl trivial ?_
  refine WpOps.consE (v := iA (idxE p 0 l)) rfl rfl (Exact.peek (t := 8) (i := 0) hH rfl rfl (Exact.call rfl rfl rfl (w_IndexFuncE he hd hl))) ?_
  refine WpOps.pn 1 rfl trivial ?_
  refine WpOps.nil ?_
  refine WpC.seq ?_
  refine WpC.seqR ?_
  refine WpOps.pn 2 rfl trivial ?_
  refine WpOps.nil ?_
  refine WpC.condB rfl (fun hb => ?_) (fun hb => ?_)
  · have hm : idxE p 0 l = -1 := by simpa using hb
    refine WpC.seqR ?_
    refine WpOps.pn 2 rfl trivial ?_
    refine WpOps.nil ?_
    refine WpC.ret ?_
    exact VEnds.ret1 rfl rfl (by rw [idxE_none p l 0 hm]; exact ⟨rfl, hH⟩)
  · have hm : idxE p 0 l ≠ -1 := by simpa using hb
    obtain ⟨k, hk, e1, hpk, hf⟩ := idxE_some p l 0 hm
    rw [Nat.zero_add] at e1
    have hne : l.map cGEdit ≠ [] := fun e => by have := congrArg List.length e; simp at this; subst this; exact absurd hk (Nat.not_lt_zero _)
    obtain ⟨g, c, rfl⟩ := hH.grown (i := 0) rfl hne
    refine WpC.at 5 (v := iA k) (by rw [← e1]; rfl) ?_
    refine WpC.skip ?_
    refine WpC.seq ?_
    refine WpC.seqR ?_
    refine WpOps.pn 3 rfl (show -9223372036854775808 ≤ (k : Int) + 1 ∧ (k : Int) + 1 ≤ 9223372036854775807 from ⟨by omega, by omega⟩) ?_
    refine WpOps.nil ?_
    refine WpC.block ?_
    have hfk : (l.take (k + 1)).filter (fun y => !p y) = l.take k := by
      rw [List.take_add_one, List.getElem?_eq_getElem hk, List.filter_append, hf, Option.toList_some, List.filter_cons, hpk]; simp
    refine WpC.loop (fun n env H => ∃ (j i : Nat) (R : List GEdit), n = l.length - j ∧ j ≤ l.length ∧ i < j ∧ R.length = l.length ∧ R.take i = (l.take j).filter (fun y => !p y) ∧ R.drop j = l.drop j ∧ knows env [(0, .own (R.map cGEdit).length (some (g, c))), (1, .clo (.func fd) [] [c0]), (5, iA i), (6, iA j)] ∧ Holds H1 [.own 49 4 (some (g, c)) (R.map cGEdit)] H) _ ⟨k + 1, k, l, rfl, by omega, by omega, rfl, hfk.symm, rfl, ⟨rfl, rfl, rfl, rfl, trivial⟩, hH⟩ ?_
    clear hH
    rintro n env H ⟨j, i, R, rfl, hj, hij, hR, h1, h2, hk2, hH⟩
    rw [← hk2.eq]
    refine WpC.seq ?_
    refine WpC.seqR ?_
    refine WpOps.pn 3 rfl trivial ?_
    refine WpOps.at 18 (len_map _ _) ?_
    refine WpOps.pn 1 rfl trivial ?_
    refine WpOps.nil ?_
    refine WpC.condB rfl (fun hb => ?_) (fun hb => ?_)
    · have hlt : j < R.length := by simpa using hb
      have hlt2 : j < l.length := by omega
      have hixR : ∀ i, (h : i < R.length) → Sh.ix R (i : Int) = some R[i] := fun i h => by rw [Sh.ix_nat]; exact List.getElem?_eq_getElem h
      have hRj : R[j] = l[j] := by
        have := congrArg (fun z => z[0]?) h2
        simp only [List.getElem?_drop, Nat.add_zero, List.getElem?_eq_getElem hlt, List.getElem?_eq_getElem hlt2] at this
        injection this
      refine WpC.skip ?_
      refine WpC.seq ?_
      refine WpC.block ?_
      refine WpC.seqR ?_
      refine WpOps.pn 2 rfl trivial ?_
      refine WpOps.consE rfl rfl (Exact.ixo (size := 4) cGEdit (hixR j hlt) rfl rfl rfl rfl (by kernel_rfl) (by decide)) ?_
      refine WpOps.consE (v := .agg (cGEdit R[j])) rfl rfl (Exact.ldo (off := 0) (i := 0) cGEdit (hixR j hlt) hH rfl rfl rfl (by decide) rfl) ?_
      refine WpOps.consG rfl rfl (WpO.allocT (z := cGEdit (GEdit.mk (0 : Int) (0 : Int) (0 : Int) ([] : List UInt8))) rfl rfl hH fun g1 H' hH => ?_)
      refine WpOps.consG rfl rfl (WpO.putT (cs' := (cGEdit R[j])) (v := (AV.agg (cGEdit R[j]))) rfl rfl hH (i := 0) rfl rfl rfl rfl rfl rfl rfl fun H' hH => ?_)
      refine WpOps.nil ?_
      have hnext : (l.take (j + 1)).filter (fun y => !p y) = (l.take j).filter (fun y => !p y) ++ (if p l[j] = true then [] else [l[j]]) := by
        rw [List.take_add_one, List.getElem?_eq_getElem hlt2, List.filter_append, Option.toList_some, List.filter_cons]
        cases p l[j] <;> rfl
      refine WpC.seqR ?_
      refine WpOps.pn 1 rfl trivial ?_
      refine WpOps.consE (v := .agg (cGEdit R[j])) rfl rfl (Exact.load rfl rfl (hH.cell (i := 0) rfl) rfl rfl) ?_
      refine WpOps.consE (v := bA (p R[j])) rfl rfl (Exact.call_clo rfl rfl he (forceL_eq _ _) (hd _ _ (by rw [hRj]; exact List.getElem_mem _))) ?_
      refine WpOps.pn 1 rfl trivial ?_
      refine WpOps.nil ?_
      refine WpC.condB rfl (fun hb2 => ?_) (fun hb2 => ?_)
      · have hp : p l[j] = false := by rw [← hRj]; simpa using hb2
        have hlti : i < R.length := by omega
        refine WpC.seqR ?_
        refine WpOps.pn 2 rfl trivial ?_
        refine WpOps.consE (v := .agg (cGEdit R[j])) rfl rfl (Exact.load rfl rfl (hH.cell (i := 0) rfl) rfl rfl) ?_
        refine WpOps.consE rfl rfl (Exact.ixo (size := 4) cGEdit (hixR i hlti) rfl rfl rfl rfl (by kernel_rfl) (by decide)) ?_
        refine WpOps.consG rfl rfl (WpO.setT (off := 0) (i := 1) cGEdit (y' := R[j]) (v := .agg (cGEdit R[j])) (hixR i hlti) hH rfl rfl rfl rfl rfl rfl rfl rfl rfl fun H' hH => ?_)
        refine WpOps.at 0 (v := .own ((R.set i R[j]).map cGEdit).length (some (g, c))) (by simp [Env.of, own_set]; rfl) ?_
        refine WpOps.nil ?_
        refine WpC.region ?_
        refine WpOps.pn 3 rfl (show -9223372036854775808 ≤ (i : Int) + 1 ∧ (i : Int) + 1 ≤ 9223372036854775807 from ⟨by omega, by omega⟩) ?_
        refine WpOps.nil ?_
        refine WpC.lose (i := 0) hH rfl (fun H' hH => ?_)
        refine WpC.region ?_
        refine WpOps.pn 3 rfl (show -9223372036854775808 ≤ (j : Int) + 1 ∧ (j : Int) + 1 ≤ 9223372036854775807 from ⟨by omega, by omega⟩) ?_
        refine WpOps.nil ?_
        refine ⟨l.length - (j + 1), by omega, j + 1, i + 1, R.set i R[j], rfl, by omega, by omega, by simpa using hR, ?_, ?_, ⟨rfl, rfl, rfl, rfl, trivial⟩, hH⟩
        · rw [hnext, hp, ← h1, List.take_add_one, List.getElem?_set_self hlti, List.take_set_of_le (Nat.le_refl _), hRj]; rfl
        · rw [List.drop_set_of_lt (by omega), ← List.drop_drop, h2, List.drop_drop]
      · have hp : p l[j] = true := by rw [← hRj]; simpa using hb2
        refine WpC.skip ?_
        refine WpC.lose (i := 0) hH rfl (fun H' hH => ?_)
        refine WpC.region ?_
        refine WpOps.pn 3 rfl (show -9223372036854775808 ≤ (j : Int) + 1 ∧ (j : Int) + 1 ≤ 9223372036854775807 from ⟨by omega, by omega⟩) ?_
        refine WpOps.nil ?_
        refine ⟨l.length - (j + 1), by omega, j + 1, i, R, rfl, by omega, by omega, hR, ?_, ?_, ⟨rfl, rfl, rfl, rfl, trivial⟩, hH⟩
        · rw [hnext, hp, h1]; simp
        · rw [← List.drop_drop, h2, List.drop_drop]
    · have hge : j = l.length := by
        have : ¬ ((j : Int) < (R.length : Int)) := by simpa using hb
        omega
      rw [hge, List.take_length] at h1
      have hrow := hH.row (i := 0) rfl
      refine WpC.exit ?_
      refine WpC.seqR ?_
      refine WpOps.pn 2 rfl trivial ?_
      refine WpOps.consE rfl rfl (Exact.slice_rest (k := i) (size := 4) rfl rfl rfl hrow (Nat.le_refl _) (by rw [List.length_map]; omega) rfl rfl (by decide)) ?_
      refine WpOps.consG rfl rfl (WpO.clearCut (k := i) (size := 4) (m := (R.map cGEdit).length - i) rfl rfl (by kernel_rfl) (by decide) rfl hrow (fun h => if_pos h) (by rw [List.length_map]; omega) (fun hcap => ?_))
      refine WpOps.nil ?_
      refine WpC.seqR ?_
      refine WpOps.pn 2 rfl trivial ?_
      refine WpOps.consE rfl rfl (Exact.slice_buf2 (k := i) (size := 4) rfl rfl rfl hcap (by rw [List.length_map]; omega) rfl rfl (by decide)) ?_
      refine WpOps.pn 1 rfl trivial ?_
      refine WpOps.nil ?_
      refine WpC.ret ?_
      have hi2 : ((R.map cGEdit).take i) = (l.filter fun y => !p y).map cGEdit := by rw [← List.map_take, h1]
      have hi3 : i = ((l.filter fun y => !p y).map cGEdit).length := by rw [← hi2, List.length_take, List.length_map]; omega
      obtain ⟨H2, e2, own2⟩ := hH
      have e2 : H2 = H1 := e2
      subst e2
      have hr2 := Own.row_inv own2 rfl
      obtain ⟨hn2, _, rfl⟩ := hr2
      refine VEnds.ret1 rfl rfl ⟨by rw [← hi3], ?_⟩
      rw [Heap.set_set, hi2]
      exact ⟨_, rfl, Vc.Own.row g c hn2 rfl⟩
theorem w_DeleteFuncE {fd : Nat} {c0 : AV} {f : GEdit → Option Bool} (he : enterable Try.prog fd = true) (hd : ∀ H y b, f y = some b → TCall Try.prog fd [.agg (cGEdit y), c0] H (fun v H' => v = bA b ∧ H' = H) noE) {H1 H : Heap} {l r : List GEdit} {q : Option (Nat × Nat)} (hr : Sh.delF f l = some r) (hl : l.length ≤ 9223372036854775806) (hH : Holds H1 [.own 49 4 q (l.map cGEdit)] H) :
    TCall Try.prog 24 [.own (l.map cGEdit).length q, .clo (.func fd) [] [c0]] H (fun v H' => v = .own (r.map cGEdit).length q ∧ Holds H1 [.own 49 4 q (r.map cGEdit)] H') noE := by
  obtain ⟨h1, rfl⟩ := Sh.delF_some hr
  exact w_DeleteFuncP he (fun H y hy => hd H y _ (h1 y hy)) hl hH
end Go.Proofs.Ytdflfbolaicliaa
