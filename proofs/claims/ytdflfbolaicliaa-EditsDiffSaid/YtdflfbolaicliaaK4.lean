/-
  The document's normal edits are the code's. No program in sight.
-/
import Derived.Test.YtdflfbolaicliaaK3
set_option linter.unusedVariables false
set_option linter.unusedSimpArgs false
namespace Go.Sh
open Go
theorem overR_symm {a b : GEdit} (h : overR a b) : overR b a := by unfold overR at *; omega
theorem T_overR {c d : GEdit} (h1 : c.from_ ≤ c.to) (h2 : d.from_ ≤ d.to) (h : ¬ aheadE d c) : T c d ↔ ¬ overR c d := by
  unfold T overR; unfold aheadE at h; omega
theorem pair_iff {fs : List GFile} {l : List GEdit} (hr : ∀ x ∈ l, RightE fs x) : (l.Pairwise fun a b => ¬ overR a b) ↔ (sortE l).Pairwise T := by
  have hp := (sortE_spec l).1
  have hs := (sortE_spec l).2
  have hS := sortE_right hr
  rw [← hp.pairwise_iff (fun h k => h (overR_symm k))]
  constructor
  · intro h
    have h2 := List.pairwise_and_iff.2 ⟨h, hs⟩
    exact h2.imp_of_mem fun ha hb hh => (T_overR (hS _ ha).2.2.2.1 (hS _ hb).2.2.2.1 hh.2).2 hh.1
  · intro h
    exact h.imp_of_mem fun ha hb hh => (T_overR (hS _ ha).2.2.2.1 (hS _ hb).2.2.2.1 (ahead_asymm hh.ahead)).1 hh
def cnt (l : List GEdit) (x : GEdit) : Nat := l.countP fun y => decide (aheadE y x)
theorem cnt_at {l S : List GEdit} (hp : S.Perm l) (hT : S.Pairwise T) (j : Nat) (hj : j < S.length) : cnt l S[j] = j := by
  unfold cnt
  rw [← hp.countP_eq]
  have e : S.countP (fun y => decide (aheadE y S[j])) = (S.take j).countP (fun y => decide (aheadE y S[j])) + (S.drop j).countP (fun y => decide (aheadE y S[j])) := by
    rw [← List.countP_append, List.take_append_drop]
  rw [e]
  have h1 : (S.take j).countP (fun y => decide (aheadE y S[j])) = (S.take j).length := List.countP_eq_length.2 fun y hy => by
    obtain ⟨i, hi, rfl⟩ := List.mem_iff_getElem.1 hy
    rw [List.length_take] at hi
    rw [List.getElem_take]
    exact dT (List.pairwise_iff_getElem.1 hT i j (by omega) hj (by omega)).ahead
  have h2 : (S.drop j).countP (fun y => decide (aheadE y S[j])) = 0 := List.countP_eq_zero.2 fun y hy => by
    obtain ⟨i, hi, rfl⟩ := List.mem_iff_getElem.1 hy
    rw [List.length_drop] at hi
    rw [List.getElem_drop]
    simp only [decide_eq_true_eq]
    by_cases e : i = 0
    · subst e; exact ahead_irrefl _
    · exact ahead_asymm (List.pairwise_iff_getElem.1 hT j (j + i) hj (by omega) (by omega)).ahead
  rw [h1, h2, List.length_take]; omega
theorem filter_idx {α : Type} {f : α → Nat} : ∀ (S : List α) (b n : Nat), (∀ j, (h : j < S.length) → f S[j] = j + b) → S.filter (fun x => decide (f x = n + b)) = S[n]?.toList
  | [], b, n, h => rfl
  | x :: r, b, n, h => by
    have h0 : f x = 0 + b := h 0 (by simp)
    have hr : ∀ j, (h : j < r.length) → f r[j] = j + (b + 1) := fun j hj => by have := h (j + 1) (by simpa using hj); simp only [List.getElem_cons_succ] at this; omega
    rw [List.filter_cons]
    cases n with
    | zero =>
      rw [if_pos (dT h0), List.filter_eq_nil_iff.2 fun y hy => by
        obtain ⟨j, hj, rfl⟩ := List.mem_iff_getElem.1 hy
        have := hr j hj
        simp only [decide_eq_true_eq]; omega]
      rfl
    | succ n =>
      rw [if_neg (by simp only [decide_eq_true_eq]; omega)]
      have := filter_idx r (b + 1) n hr
      rw [show n + 1 + b = n + (b + 1) by omega, this]; rfl
theorem at_place {l S : List GEdit} {q : GEdit → Bool} (hp : S.Perm l) (hT : S.Pairwise T) (n : Nat) (hn : n < S.length) : l.filter (fun x => decide (cnt l x = n) && q x) = [S[n]].filter q := by
  have h1 : (l.filter (fun x => decide (cnt l x = n) && q x)).Perm (S.filter (fun x => decide (cnt l x = n) && q x)) := (hp.filter _).symm
  have h2 : S.filter (fun x => decide (cnt l x = n) && q x) = [S[n]].filter q := by
    rw [show (fun x => decide (cnt l x = n) && q x) = (fun x => q x && decide (cnt l x = n)) from funext fun x => Bool.and_comm _ _, ← List.filter_filter]
    have := filter_idx S 0 n fun j hj => cnt_at hp hT j hj
    rw [show n + 0 = n from rfl] at this
    rw [this, List.getElem?_eq_getElem hn]; rfl
  rw [h2] at h1
  rw [List.filter_cons] at h1 ⊢
  cases hq : q S[n]
  · rw [hq] at h1; exact h1.eq_nil
  · rw [hq] at h1; exact h1.eq_singleton
theorem rcount_loop (l : List GEdit) (i : Nat) (hi : i < l.length) (hn : l.length ≤ 1000000) : loopS (emendref20_Normal_b12 l i) ((0 : Int), (0 : Int)) = some ((cnt l l[i] : Nat) : Int) := by
  obtain ⟨r, h1, h2⟩ := loopS_ix (f := emendref20_Normal_b12 l i) l.length (by omega) (fun k x => x = ((((l.take k).countP (fun y => decide (aheadE y l[i])) : Nat) : Int), (k : Int))) (fun r => r = ((cnt l l[i] : Nat) : Int)) (s0 := ((0 : Int), (0 : Int))) rfl (by
    rintro k x hk rfl
    unfold emendref20_Normal_b12
    have hlt : (k : Int) < (l.length : Int) := by omega
    simp only [chkB, dT hlt, if_true, ix_at hk, ix_at hi, Option.bind_some, rbefore_eq]
    left
    have hc : (l.take k).countP (fun y => decide (aheadE y l[i])) ≤ 1000000 := Nat.le_trans List.countP_le_length (by rw [List.length_take]; omega)
    have hs : (l.take (k + 1)).countP (fun y => decide (aheadE y l[i])) = (l.take k).countP (fun y => decide (aheadE y l[i])) + if aheadE l[k] l[i] then 1 else 0 := by
      rw [List.take_add_one, List.getElem?_eq_getElem hk, List.countP_append, Option.toList_some, List.countP_cons, List.countP_nil]
      by_cases h : aheadE l[k] l[i]
      · rw [if_pos (dT h), if_pos h]
      · rw [if_neg (by rw [dF h]; simp), if_neg h]
    by_cases h : aheadE l[k] l[i]
    · rw [if_pos (dT h), pk (i64_small (by omega) (by omega)), pk (i64_small (by omega) (by omega))]
      exact ⟨_, rfl, by rw [fl_nat, fl_nat, hs, if_pos h]⟩
    · rw [if_neg (by rw [dF h]; simp), pk (i64_small (by omega) (by omega))]
      exact ⟨_, rfl, by rw [fl_nat, hs, if_neg h]; rfl⟩) (by
    rintro x rfl
    unfold emendref20_Normal_b12
    have hlt : ¬ (l.length : Int) < (l.length : Int) := by omega
    rw [List.take_length]
    exact ⟨_, if_neg (by rw [dF hlt]; simp), rfl⟩)
  rw [h1, h2]
theorem rplace_loop (fs : List GFile) (l : List GEdit) (n : Nat) (o0 : List GEdit) (ho : o0.length ≤ 1000000) (hn : l.length ≤ 1000000) (hr : ∀ x ∈ l, RightE fs x) : loopS (emendref20_Normal_b10 fs l n) ((0 : Int), o0) = some (o0 ++ l.filter (fun x => decide (cnt l x = n) && nidle fs x)) := by
  obtain ⟨r, h1, h2⟩ := loopS_ix (f := emendref20_Normal_b10 fs l n) l.length (by omega) (fun k x => x = ((k : Int), o0 ++ (l.take k).filter (fun x => decide (cnt l x = n) && nidle fs x))) (fun r => r = o0 ++ l.filter (fun x => decide (cnt l x = n) && nidle fs x)) (s0 := ((0 : Int), o0)) (by rw [List.take_zero]; show _ = (_, o0 ++ []); rw [List.append_nil]; rfl) (by
    rintro k x hk rfl
    unfold emendref20_Normal_b10
    have hlt : (k : Int) < (l.length : Int) := by omega
    simp only [dT hlt, if_true, rcount_loop l k hk hn, Option.bind_some]
    unfold emendref20_Normal_j11
    obtain ⟨a1, a2, a3, a4, a5⟩ := hr _ (List.getElem_mem hk)
    obtain ⟨f, hx, ht, _⟩ := ix_in a1 a2
    simp only [chkB, ix_at hk, Option.bind_some, hx]
    rw [← ht] at a5
    rw [pk ⟨a3, a4, a5⟩]
    left
    have hf : (l.take k).filter (fun x => decide (cnt l x = n) && nidle fs x) ++ (if (decide (cnt l l[k] = n) && nidle fs l[k]) = true then [l[k]] else []) = (l.take (k + 1)).filter (fun x => decide (cnt l x = n) && nidle fs x) := by
      rw [List.take_add_one, List.getElem?_eq_getElem hk, List.filter_append, Option.toList_some, List.filter_cons]; cases (decide (cnt l l[k] = n) && nidle fs l[k]) <;> rfl
    have hlen : ((l.take k).filter (fun x => decide (cnt l x = n) && nidle fs x)).length ≤ 1000000 := Nat.le_trans (List.length_filter_le _ _) (by rw [List.length_take]; omega)
    have e : nidle fs l[k] = !decide (cut f.text l[k].from_ l[k].to = l[k].text) := by unfold nidle idle; rw [ht]
    have e1 : decide (((cnt l l[k] : Nat) : Int) = (n : Int)) = decide (cnt l l[k] = n) := decide_eq_decide.2 (by omega)
    rw [e1]
    have hb : andO (decide (cnt l l[k] = n)) (some (!decide (((f.text.drop l[k].from_.toNat).take (l[k].to.toNat - l[k].from_.toNat)) = l[k].text))) = some (decide (cnt l l[k] = n) && nidle fs l[k]) := by
      rw [e]; cases decide (cnt l l[k] = n) <;> rfl
    rw [hb]
    simp only [Option.bind_some]
    by_cases hi : (decide (cnt l l[k] = n) && nidle fs l[k]) = true
    · rw [if_pos hi, pk (by rw [List.length_append]; omega), pk (i64_small (by omega) (by omega))]
      exact ⟨_, rfl, by rw [fl_nat, ← hf, if_pos hi, List.append_assoc]⟩
    · rw [if_neg hi, pk (i64_small (by omega) (by omega))]
      exact ⟨_, rfl, by rw [fl_nat, ← hf, if_neg hi, List.append_nil]⟩) (by
    rintro x rfl
    unfold emendref20_Normal_b10
    have hlt : ¬ (l.length : Int) < (l.length : Int) := by omega
    rw [List.take_length]
    exact ⟨_, if_neg (by rw [dF hlt]; simp), rfl⟩)
  rw [h1, h2]
theorem rorder_loop (fs : List GFile) (l : List GEdit) (hn : l.length ≤ 1000000) (hr : ∀ x ∈ l, RightE fs x) (hT : (sortE l).Pairwise T) : loopS (emendref20_Normal_b8 fs l) ((0 : Int), ([] : List GEdit)) = some ((sortE l).filter (nidle fs)) := by
  have hp := (sortE_spec l).1
  have hl := sortE_len l
  obtain ⟨r, h1, h2⟩ := loopS_ix (f := emendref20_Normal_b8 fs l) l.length (by omega) (fun k x => x = ((k : Int), ((sortE l).take k).filter (nidle fs))) (fun r => r = (sortE l).filter (nidle fs)) (s0 := ((0 : Int), ([] : List GEdit))) rfl (by
    rintro k x hk rfl
    unfold emendref20_Normal_b8
    have hlt : (k : Int) < (l.length : Int) := by omega
    have hlen : (((sortE l).take k).filter (nidle fs)).length ≤ 1000000 := Nat.le_trans (List.length_filter_le _ _) (by rw [List.length_take]; omega)
    have hkS : k < (sortE l).length := by omega
    have hf : ((sortE l).take k).filter (nidle fs) ++ l.filter (fun x => decide (cnt l x = k) && nidle fs x) = ((sortE l).take (k + 1)).filter (nidle fs) := by
      rw [at_place hp hT k hkS, List.take_add_one, List.getElem?_eq_getElem hkS, List.filter_append, Option.toList_some]
    left
    refine ⟨_, (if_pos (dT hlt)).trans ?_, rfl⟩
    rw [rplace_loop fs l k _ hlen hn hr, hf, Option.bind_some]
    unfold emendref20_Normal_j9
    rw [chkB, pk (i64_small (by omega) (by omega)), fl_nat]) (by
    rintro x rfl
    unfold emendref20_Normal_b8
    have hlt : ¬ (l.length : Int) < (l.length : Int) := by omega
    rw [List.take_of_length_le (by omega)]
    exact ⟨_, if_neg (by rw [dF hlt]; simp), rfl⟩)
  rw [h1, h2]
theorem rright_loop (fs : List GFile) (l : List GEdit) (hn : l.length ≤ 1000000) : loopS (emendref20_Normal_b2 fs l) (0 : Int) = some (if ∀ x ∈ l, RightE fs x then .inl () else .inr ([], 200)) := by
  rw [loopS_findB l (fun x => !decide (RightE fs x)) (([], 200) : List GEdit × Int) (by omega) (fun k hk => by
    unfold emendref20_Normal_b2
    have hlt : (k : Int) < (l.length : Int) := by omega
    simp only [dT hlt, if_true, ix_at hk, Option.bind_some, rright_eq]
    by_cases h : RightE fs l[k]
    · rw [if_neg (by rw [dT h]; simp), if_neg (by rw [dT h]; simp), chkT (i64_small (by omega) (by omega)), fl_nat]
    · rw [if_pos (by rw [dF h]; rfl), if_pos (by rw [dF h]; rfl)]) (by
    unfold emendref20_Normal_b2
    have hlt : ¬ (l.length : Int) < (l.length : Int) := by omega
    exact if_neg (by rw [dF hlt]; simp))]
  by_cases h : ∀ x ∈ l, RightE fs x
  · rw [if_pos h, if_neg]
    intro hh
    obtain ⟨x, hx, h2⟩ := List.any_eq_true.1 hh
    rw [dT (h x hx)] at h2; cases h2
  · rw [if_neg h, if_pos]
    have : ∃ x, x ∈ l ∧ ¬ RightE fs x := Classical.byContradiction fun hh => h fun x hx => Classical.byContradiction fun hx2 => hh ⟨x, hx, hx2⟩
    obtain ⟨x, hx, h2⟩ := this
    exact List.any_eq_true.2 ⟨x, hx, by rw [dF h2]; rfl⟩
theorem rover_loop (l : List GEdit) (i : Nat) (hi : i < l.length) (hn : l.length ≤ 1000000) : loopS (emendref20_Normal_b6 l i) (0 : Int) = some (if (l.take i).any (fun y => decide (overR l[i] y)) = true then .inr ([], 201) else .inl ()) := by
  have hlen : (l.take i).length = i := by rw [List.length_take]; omega
  refine loopS_findB (l.take i) (fun y => decide (overR l[i] y)) (([], 201) : List GEdit × Int) (by omega) (fun k hk => ?_) ?_
  · unfold emendref20_Normal_b6
    have hki : k < i := by omega
    have hlt : (k : Int) < (i : Int) := by omega
    simp only [dT hlt, if_true, ix_at hi, ix_at (show k < l.length by omega), Option.bind_some, rover_eq, List.getElem_take]
    by_cases h : overR l[i] l[k]
    · rw [if_pos (dT h), if_pos (dT h)]
    · rw [if_neg (by rw [dF h]; simp), if_neg (by rw [dF h]; simp), chkT (i64_small (by omega) (by omega)), fl_nat]
  · unfold emendref20_Normal_b6
    rw [hlen]
    have hlt : ¬ (i : Int) < (i : Int) := by omega
    exact if_neg (by rw [dF hlt]; simp)
theorem rovers_loop (l : List GEdit) (hn : l.length ≤ 1000000) : loopS (emendref20_Normal_b4 l) (0 : Int) = some (if l.Pairwise fun a b => ¬ overR a b then .inl () else .inr ([], 201)) := by
  obtain ⟨r, h1, h2⟩ := loopS_ix (f := emendref20_Normal_b4 l) l.length (by omega) (fun k x => x = (k : Int) ∧ ∀ i j, (hj : j < l.length) → (hi : i < j) → j < k → ¬ overR l[i] l[j]) (fun r => r = if l.Pairwise fun a b => ¬ overR a b then .inl () else .inr ([], 201)) (s0 := (0 : Int)) ⟨rfl, fun i j _ _ h => by omega⟩ (by
    rintro k x hk ⟨rfl, h⟩
    unfold emendref20_Normal_b4
    have hlt : (k : Int) < (l.length : Int) := by omega
    simp only [dT hlt, if_true, rover_loop l k hk hn, Option.bind_some]
    by_cases ha : (l.take k).any (fun y => decide (overR l[k] y)) = true
    · right
      rw [if_pos ha]
      refine ⟨_, rfl, ?_⟩
      rw [if_neg]
      intro hh
      obtain ⟨y, hy, h2⟩ := List.any_eq_true.1 ha
      obtain ⟨i, hi, rfl⟩ := List.mem_iff_getElem.1 hy
      rw [List.length_take] at hi
      rw [List.getElem_take] at h2
      exact List.pairwise_iff_getElem.1 hh i k (by omega) hk (by omega) (overR_symm (of_decide_eq_true h2))
    · left
      rw [if_neg ha]
      show ∃ s', emendref20_Normal_j5 k () = _ ∧ _
      unfold emendref20_Normal_j5
      rw [chkT (i64_small (by omega) (by omega))]
      refine ⟨_, rfl, fl_nat k, fun i j hj hi hjk hov => ?_⟩
      by_cases e : j = k
      · subst e
        exact ha (List.any_eq_true.2 ⟨l[i], List.mem_iff_getElem.2 ⟨i, by rw [List.length_take]; omega, by rw [List.getElem_take]⟩, dT (overR_symm hov)⟩)
      · exact h i j hj hi (by omega) hov) (by
    rintro x ⟨rfl, h⟩
    unfold emendref20_Normal_b4
    have hlt : ¬ (l.length : Int) < (l.length : Int) := by omega
    refine ⟨_, if_neg (by rw [dF hlt]; simp), ?_⟩
    rw [if_pos (List.pairwise_iff_getElem.2 fun i j hi hj hij => h i j hj hij hj)])
  rw [h1, h2]
theorem rnormal_eq (fs : List GFile) (l : List GEdit) (hn : l.length ≤ 1000000) (ht : sumT l ≤ 1000000000) : emendref20_Normal fs l = some (normS fs l) := by
  unfold emendref20_Normal normS
  rw [rright_loop fs l hn]
  by_cases h : ∀ x ∈ l, RightE fs x
  · rw [if_pos h, if_pos h]
    show emendref20_Normal_j1 fs l () = _
    unfold emendref20_Normal_j1
    rw [rovers_loop l hn]
    by_cases hp : (sortE l).Pairwise T
    · rw [if_pos hp, if_pos ((pair_iff h).2 hp)]
      show emendref20_Normal_j3 fs l () = _
      unfold emendref20_Normal_j3
      rw [rorder_loop fs l hn h hp]
      show emendref20_Normal_j7 fs _ = _
      unfold emendref20_Normal_j7
      have hl := sortE_len l
      have hs1 : sumT ((sortE l).filter (nidle fs)) ≤ 1000000000 := Nat.le_trans (sumT_filter _ _) (by rw [sumT_perm (sortE_spec l).1]; exact ht)
      have hl1 : ((sortE l).filter (nidle fs)).length ≤ 1000000 := Nat.le_trans (List.length_filter_le _ _) (by omega)
      rw [rjoin_eq hl1 hs1 (fun x hx => sortE_right h x (List.mem_filter.1 hx).1)]
      rfl
    · rw [if_neg hp, if_neg (fun hh => hp ((pair_iff h).1 hh))]; rfl
  · rw [if_neg h, if_neg h]; rfl
end Go.Sh
