/-
  Edits in order, joined, normal: what the code computes. No program in sight.
-/
import Derived.Test.YtdflfbolaicliaaK1
set_option linter.unusedVariables false
set_option linter.unusedSimpArgs false
namespace Go.Sh
open Go
def normSort (fs : List GFile) (l : List GEdit) : List GEdit × Int := if ∀ x ∈ l, RightE fs x then if (sortE l).Pairwise T then (sortE l, 0) else ([], 201) else ([], 200)
theorem sorted_loop1 (fs : List GFile) (l : List GEdit) (hn : l.length ≤ 1000000) : loopS (edits_sorted_b2 fs l) ((0 : Int), ([] : List GEdit)) = some (if ∀ x ∈ l, RightE fs x then .inl l else .inr ([], 200)) := by
  obtain ⟨r, h1, h2⟩ := loopS_ix (f := edits_sorted_b2 fs l) l.length (by omega) (fun k x => x = ((k : Int), l.take k) ∧ ∀ x ∈ l.take k, RightE fs x) (fun r => r = if ∀ x ∈ l, RightE fs x then .inl l else .inr ([], 200)) (s0 := ((0 : Int), ([] : List GEdit))) ⟨rfl, fun x hx => by cases hx⟩ (by
    rintro k x hk ⟨rfl, h⟩
    unfold edits_sorted_b2
    have hlt : (k : Int) < (l.length : Int) := by omega
    simp only [dT hlt, if_true, ix_at hk, Option.bind_some, right_eq]
    by_cases hr : RightE fs l[k]
    · left
      have e : (!decide (RightE fs l[k])) = false := by rw [dT hr]; rfl
      rw [if_neg (by rw [e]; simp)]
      rw [chkT (by rw [List.length_take]; omega), chkT (i64_small (by omega) (by omega))]
      refine ⟨_, rfl, ?_, ?_⟩
      · rw [fl_nat, List.take_add_one, List.getElem?_eq_getElem hk]; rfl
      · intro x hx
        rw [List.take_add_one, List.getElem?_eq_getElem hk] at hx
        rcases List.mem_append.1 hx with hx | hx
        · exact h x hx
        · have := List.mem_singleton.1 hx; subst this; exact hr
    · right
      have e : (!decide (RightE fs l[k])) = true := by rw [dF hr]; rfl
      rw [if_pos e]
      exact ⟨_, rfl, by rw [if_neg (fun hh => hr (hh _ (List.getElem_mem hk)))]⟩) (by
    rintro x ⟨rfl, h⟩
    unfold edits_sorted_b2
    rw [List.take_length] at h ⊢
    have hlt : ¬ (l.length : Int) < (l.length : Int) := by omega
    exact ⟨_, if_neg (by rw [dF hlt]; simp), by rw [if_pos h]⟩)
  rw [h1, h2]
theorem sorted_loop2 (S : List GEdit) (l : List GEdit) (hS : sortE l = S) (hn : S.length ≤ 1000000) (hr : ∀ x ∈ S, x.from_ ≤ x.to) (hs : S.Pairwise fun x y => ¬ aheadE y x) : loopS (edits_sorted_b4 l) (1 : Int) = some (if S.Pairwise T then .inl () else .inr ([], 201)) := by
  obtain ⟨r, h1, h2⟩ := loopS_ix (f := edits_sorted_b4 l) (S.length - 1) (by omega) (fun k x => x = ((k + 1 : Nat) : Int) ∧ ∀ i, (h : i + 1 < S.length) → i < k → T S[i] S[i + 1]) (fun r => r = if S.Pairwise T then .inl () else .inr ([], 201)) (s0 := (1 : Int)) ⟨rfl, fun i _ h => by omega⟩ (by
    rintro k x hk ⟨rfl, h⟩
    unfold edits_sorted_b4
    rw [hS]
    have hk1 : k + 1 < S.length := by omega
    have hlt : ((k + 1 : Nat) : Int) < (S.length : Int) := by omega
    simp only [dT hlt, if_true]
    rw [chkT (i64_small (by omega) (by omega))]
    have e1 : ((k + 1 : Nat) : Int) - 1 = (k : Int) := by omega
    rw [e1, ix_at (by omega), ix_at hk1]
    simp only [Option.bind_some, over_eq]
    have hT := T_iff (c := S[k]) (d := S[k + 1]) (hr _ (List.getElem_mem _)) (hr _ (List.getElem_mem _)) (List.pairwise_iff_getElem.1 hs k (k + 1) (by omega) hk1 (by omega))
    by_cases ho : overC S[k] S[k + 1]
    · right
      rw [if_pos (dT ho)]
      exact ⟨_, rfl, by rw [if_neg (fun hp => (hT.1 (pair_chain hp k hk1)) ho)]⟩
    · left
      rw [if_neg (by rw [dF ho]; simp), chkT (i64_small (by omega) (by omega))]
      refine ⟨_, rfl, by rw [fl_nat], fun i hi hik => ?_⟩
      by_cases e : i = k
      · subst e; exact hT.2 ho
      · exact h i hi (by omega)) (by
    rintro x ⟨rfl, h⟩
    unfold edits_sorted_b4
    rw [hS]
    have hlt : ¬ ((S.length - 1 + 1 : Nat) : Int) < (S.length : Int) := by omega
    exact ⟨_, if_neg (by rw [dF hlt]; simp), by rw [if_pos (chain_pair fun i hi => h i hi (by omega))]⟩)
  rw [h1, h2]
theorem sortE_right {fs : List GFile} {l : List GEdit} (h : ∀ x ∈ l, RightE fs x) : ∀ x ∈ sortE l, RightE fs x := fun x hx => h x ((sortE_spec l).1.mem_iff.1 hx)
theorem sorted_eq (fs : List GFile) (l : List GEdit) (hn : l.length ≤ 1000000) : edits_sorted fs l = some (normSort fs l) := by
  unfold edits_sorted
  rw [sorted_loop1 fs l hn]
  unfold normSort
  by_cases h : ∀ x ∈ l, RightE fs x
  · rw [if_pos h, if_pos h]
    show edits_sorted_j1 l = _
    unfold edits_sorted_j1
    have hl := sortE_len l
    rw [chkT (by omega), sorted_loop2 (sortE l) l rfl (by omega) (fun x hx => (sortE_right h x hx).2.2.2.1) (sortE_spec l).2]
    by_cases hp : (sortE l).Pairwise T
    · rw [if_pos hp, if_pos hp]; rfl
    · rw [if_neg hp, if_neg hp]; rfl
  · rw [if_neg h, if_neg h]; rfl
def touch (c d : GEdit) : Prop := c.file_ = d.file_ ∧ c.to = d.from_
instance (c d : GEdit) : Decidable (touch c d) := inferInstanceAs (Decidable (_ ∧ _))
def merge (c d : GEdit) : GEdit := ⟨c.file_, c.from_, d.to, c.text ++ d.text⟩
def joinA (c : GEdit) : List GEdit → List GEdit
  | [] => [c]
  | d :: r => if touch c d then joinA (merge c d) r else c :: joinA d r
def joinL : List GEdit → List GEdit
  | [] => []
  | c :: r => joinA c r
def sumT (l : List GEdit) : Nat := (l.map fun x => x.text.length).sum
theorem sumT_cons (x : GEdit) (l : List GEdit) : sumT (x :: l) = x.text.length + sumT l := by unfold sumT; simp
theorem sumT_drop (l : List GEdit) (k : Nat) (h : k < l.length) : sumT (l.drop k) = l[k].text.length + sumT (l.drop (k + 1)) := by
  rw [List.drop_eq_getElem_cons h, sumT_cons]
theorem set_last (p : List GEdit) (c d : GEdit) : (p ++ [c]).set p.length d = p ++ [d] := by
  rw [List.set_append_right _ _ (Nat.le_refl _), Nat.sub_self]; rfl
theorem joined_eq (l : List GEdit) (hn : l.length ≤ 1000000) (ht : sumT l ≤ 1000000000) : edits_joined l = some (joinL l) := by
  unfold edits_joined
  obtain ⟨r, h1, h2⟩ := loopS_ix (f := edits_joined_b2 l) l.length (by omega) (fun k x => x.1 = (k : Int) ∧ ((k = 0 ∧ x.2 = []) ∨ ∃ p c, x.2 = p ++ [c] ∧ joinL l = p ++ joinA c (l.drop k) ∧ p.length < k ∧ c.text.length + sumT (l.drop k) ≤ sumT l)) (fun r => r = joinL l) (s0 := ((0 : Int), ([] : List GEdit))) ⟨rfl, .inl ⟨rfl, rfl⟩⟩ (by
    rintro k ⟨x1, out⟩ hk ⟨h1, h2⟩
    dsimp only at h1 h2
    subst h1
    unfold edits_joined_b2
    have hlt : (k : Int) < (l.length : Int) := by omega
    simp only [chkB, dT hlt, if_true, ix_at hk, Option.bind_some]
    left
    have hd := List.drop_eq_getElem_cons hk
    have hst := sumT_drop l k hk
    rcases h2 with ⟨rfl, rfl⟩ | ⟨p, c, rfl, hj, hp, hc⟩
    · rw [pk (show I64 _ from i64_small (by simp) (by simp))]
      have e1 : decide ((0 : Int) ≤ ((([] : List GEdit).length : Int) - 1)) = false := dF (by simp)
      rw [e1]
      simp only [andO_false, Option.bind_some]
      rw [if_neg (by simp), pk (by simp), pk (i64_small (by omega) (by omega))]
      refine ⟨_, rfl, fl_nat 0, .inr ⟨[], l[0], rfl, ?_, by simp, by rw [List.drop_zero] at hst; omega⟩⟩
      rw [List.drop_zero] at hd
      rw [show joinL l = joinL (l[0] :: l.drop 1) from congrArg joinL hd]
      rfl
    · have e0 : (((p ++ [c]).length : Nat) : Int) - 1 = (p.length : Int) := by simp
      rw [e0, pk (i64_small (by omega) (by omega)), dT (show (0 : Int) ≤ (p.length : Int) by omega)]
      have hx : Sh.ix (p ++ [c]) (p.length : Int) = some c := by rw [ix_nat]; simp
      simp only [hx, Option.bind_some, Int.toNat_natCast, andO_true]
      by_cases hf : c.file_ = l[k].file_
      · rw [dT hf]
        simp only [andO_true, Option.bind_some]
        by_cases hto : c.to = l[k].from_
        · rw [if_pos (dT hto), pk (by omega)]
          rw [set_last]
          have hx2 : Sh.ix (p ++ [(⟨c.file_, c.from_, l[k].to, c.text⟩ : GEdit)]) (p.length : Int) = some ⟨c.file_, c.from_, l[k].to, c.text⟩ := by rw [ix_nat]; simp
          rw [hx2]
          simp only [Option.bind_some]
          rw [set_last, pk (i64_small (by omega) (by omega))]
          refine ⟨_, rfl, fl_nat k, .inr ⟨p, merge c l[k], rfl, ?_, by omega, ?_⟩⟩
          · rw [hj, hd]
            show _ ++ joinA c (l[k] :: _) = _
            rw [joinA, if_pos ⟨hf, hto⟩]
          · show (c.text ++ l[k].text).length + _ ≤ _
            rw [List.length_append]; omega
        · rw [if_neg (by rw [dF hto]; simp), pk (by simp; omega), pk (i64_small (by omega) (by omega))]
          refine ⟨_, rfl, fl_nat k, .inr ⟨p ++ [c], l[k], rfl, ?_, by simp; omega, by omega⟩⟩
          rw [hj, hd, joinA, if_neg (fun h => hto h.2), List.append_assoc]; rfl
      · rw [dF hf]
        simp only [andO_false, Option.bind_some]
        rw [if_neg (by simp), pk (by simp; omega), pk (i64_small (by omega) (by omega))]
        refine ⟨_, rfl, fl_nat k, .inr ⟨p ++ [c], l[k], rfl, ?_, by simp; omega, by omega⟩⟩
        rw [hj, hd, joinA, if_neg (fun h => hf h.1), List.append_assoc]; rfl) (by
    rintro ⟨x1, out⟩ ⟨h1, h2⟩
    dsimp only at h1 h2
    subst h1
    unfold edits_joined_b2
    have hlt : ¬ (l.length : Int) < (l.length : Int) := by omega
    refine ⟨_, if_neg (by rw [dF hlt]; simp), ?_⟩
    rcases h2 with ⟨h2, rfl⟩ | ⟨p, c, rfl, hj, hp, hc⟩
    · have : l = [] := List.eq_nil_of_length_eq_zero h2
      rw [this]; rfl
    · rw [List.drop_length] at hj
      rw [hj]; rfl)
  rw [h1, h2]; rfl
def nidle (fs : List GFile) (c : GEdit) : Bool := !idle fs c
def normS (fs : List GFile) (l : List GEdit) : List GEdit × Int := if ∀ x ∈ l, RightE fs x then if (sortE l).Pairwise T then ((joinL ((sortE l).filter (nidle fs))).filter (nidle fs), 0) else ([], 201) else ([], 200)
theorem merge_right {fs : List GFile} {c d : GEdit} (hc : RightE fs c) (hd : RightE fs d) (h : touch c d) : RightE fs (merge c d) := by
  obtain ⟨h1, h2⟩ := h
  obtain ⟨a1, a2, a3, a4, a5⟩ := hc
  obtain ⟨b1, b2, b3, b4, b5⟩ := hd
  rw [← h1] at b5
  exact ⟨a1, a2, a3, by show c.from_ ≤ d.to; omega, b5⟩
theorem joinA_right {fs : List GFile} : ∀ (r : List GEdit) (c : GEdit), RightE fs c → (∀ x ∈ r, RightE fs x) → ∀ x ∈ joinA c r, RightE fs x
  | [], c, hc, _, x, hx => by rw [joinA] at hx; rw [List.mem_singleton.1 hx]; exact hc
  | d :: r, c, hc, hr, x, hx => by
    rw [joinA] at hx
    by_cases h : touch c d
    · rw [if_pos h] at hx
      exact joinA_right r _ (merge_right hc (hr d (List.mem_cons_self ..)) h) (fun y hy => hr y (List.mem_cons_of_mem _ hy)) x hx
    · rw [if_neg h] at hx
      rcases List.mem_cons.1 hx with e | hx
      · rw [e]; exact hc
      · exact joinA_right r d (hr d (List.mem_cons_self ..)) (fun y hy => hr y (List.mem_cons_of_mem _ hy)) x hx
theorem joinL_right {fs : List GFile} {l : List GEdit} (h : ∀ x ∈ l, RightE fs x) : ∀ x ∈ joinL l, RightE fs x := by
  cases l with
  | nil => exact h
  | cons c r => exact joinA_right r c (h c (List.mem_cons_self ..)) fun y hy => h y (List.mem_cons_of_mem _ hy)
theorem joinA_len : ∀ (r : List GEdit) (c : GEdit), (joinA c r).length ≤ r.length + 1
  | [], c => Nat.le_refl _
  | d :: r, c => by
    rw [joinA]
    by_cases h : touch c d
    · rw [if_pos h]; have := joinA_len r (merge c d); simp only [List.length_cons]; omega
    · rw [if_neg h]; have := joinA_len r d; simp only [List.length_cons]; omega
theorem joinL_len (l : List GEdit) : (joinL l).length ≤ l.length := by
  cases l with
  | nil => exact Nat.le_refl _
  | cons c r => exact joinA_len r c
theorem joinA_sum : ∀ (r : List GEdit) (c : GEdit), sumT (joinA c r) = c.text.length + sumT r
  | [], c => by rw [joinA, sumT_cons]
  | d :: r, c => by
    rw [joinA, sumT_cons]
    by_cases h : touch c d
    · rw [if_pos h, joinA_sum r]; show (c.text ++ d.text).length + _ = _; rw [List.length_append]; omega
    · rw [if_neg h, sumT_cons, joinA_sum r]
theorem joinL_sum (l : List GEdit) : sumT (joinL l) = sumT l := by
  cases l with
  | nil => rfl
  | cons c r => rw [joinL, joinA_sum, sumT_cons]
theorem sumT_filter (p : GEdit → Bool) : ∀ l : List GEdit, sumT (l.filter p) ≤ sumT l
  | [] => Nat.le_refl _
  | x :: l => by
    have := sumT_filter p l
    rw [List.filter_cons, sumT_cons]
    cases p x
    · simp only [Bool.false_eq_true, if_false]; omega
    · simp only [if_true]; rw [sumT_cons]; omega
theorem sumT_perm {a b : List GEdit} (h : a.Perm b) : sumT a = sumT b := by
  induction h with
  | nil => rfl
  | cons x _ ih => rw [sumT_cons, sumT_cons, ih]
  | swap x y l => simp only [sumT_cons]; omega
  | trans _ _ h1 h2 => exact h1.trans h2
theorem normal_loop (fs : List GFile) (l : List GEdit) (hn : l.length ≤ 1000000) (hr : ∀ x ∈ l, RightE fs x) : loopS (edits_Normal_b2 fs l) ((0 : Int), ([] : List GEdit)) = some (l.filter (nidle fs)) := by
  obtain ⟨r, h1, h2⟩ := loopS_ix (f := edits_Normal_b2 fs l) l.length (by omega) (fun k x => x = ((k : Int), (l.take k).filter (nidle fs))) (fun r => r = l.filter (nidle fs)) (s0 := ((0 : Int), ([] : List GEdit))) rfl (by
    rintro k x hk rfl
    unfold edits_Normal_b2
    have hlt : (k : Int) < (l.length : Int) := by omega
    simp only [dT hlt, if_true, ix_at hk, Option.bind_some, idle_eq (hr _ (List.getElem_mem hk))]
    left
    have hf : (l.take k).filter (nidle fs) ++ (if nidle fs l[k] = true then [l[k]] else []) = (l.take (k + 1)).filter (nidle fs) := by
      rw [List.take_add_one, List.getElem?_eq_getElem hk, List.filter_append, Option.toList_some, List.filter_cons]; cases nidle fs l[k] <;> rfl
    have hlen : ((l.take k).filter (nidle fs)).length ≤ 1000000 := Nat.le_trans (List.length_filter_le _ _) (by rw [List.length_take]; omega)
    by_cases hi : (!idle fs l[k]) = true
    · rw [if_pos hi, chkT (by omega), chkT (i64_small (by omega) (by omega))]
      refine ⟨_, rfl, ?_⟩
      rw [fl_nat, ← hf, if_pos (show nidle fs l[k] = true from hi)]
    · rw [if_neg hi, chkT (i64_small (by omega) (by omega))]
      refine ⟨_, rfl, ?_⟩
      rw [fl_nat, ← hf, if_neg (show ¬ nidle fs l[k] = true from hi), List.append_nil]) (by
    rintro x rfl
    unfold edits_Normal_b2
    have hlt : ¬ (l.length : Int) < (l.length : Int) := by omega
    rw [List.take_length]
    exact ⟨_, if_neg (by rw [dF hlt]; simp), rfl⟩)
  rw [h1, h2]
theorem normal_eq (fs : List GFile) (l : List GEdit) (hn : l.length ≤ 1000000) (ht : sumT l ≤ 1000000000) : edits_Normal fs l = some (normS fs l) := by
  unfold edits_Normal
  rw [sorted_eq fs l hn]
  unfold normSort normS
  by_cases h : ∀ x ∈ l, RightE fs x
  · rw [if_pos h, if_pos h]
    by_cases hp : (sortE l).Pairwise T
    · rw [if_pos hp, if_pos hp]
      simp only [Option.bind_some]
      have hS := sortE_right h
      have hl := sortE_len l
      rw [if_neg (by simp), chkT (by omega)]
      rw [delF_of (p := idle fs) (fun x hx => by show edits_Normal_c1 x fs = _; unfold edits_Normal_c1; rw [idle_eq (hS x hx)]; rfl)]
      have hs1 : sumT ((sortE l).filter (nidle fs)) ≤ 1000000000 := Nat.le_trans (sumT_filter _ _) (by rw [sumT_perm (sortE_spec l).1]; exact ht)
      have hl1 : ((sortE l).filter (nidle fs)).length ≤ 1000000 := Nat.le_trans (List.length_filter_le _ _) (by omega)
      have hj := joinL_len ((sortE l).filter (nidle fs))
      show ((edits_joined ((sortE l).filter (nidle fs))).bind fun r_2 => _) = _
      rw [joined_eq _ hl1 hs1]
      simp only [Option.bind_some]
      rw [normal_loop fs _ (by omega) (joinL_right fun x hx => hS x (List.mem_filter.1 hx).1)]
      rfl
    · rw [if_neg hp, if_neg hp]; rfl
  · rw [if_neg h, if_neg h]; rfl
end Go.Sh
