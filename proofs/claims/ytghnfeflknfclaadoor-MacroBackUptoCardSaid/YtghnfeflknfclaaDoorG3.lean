/-
  Definitions of macros: the document's answer computes the same. No program in sight.
-/
import Derived.Test.YtghnfeflknfclaaDoorG2
set_option linter.unusedVariables false
set_option linter.unusedSimpArgs false
namespace Go.Sh
open Go
theorem rsgn_eq (l : List GTok) (k : Nat) (s : List UInt8) {i : Int} (hi : i = (k : Int)) : emendref06_sign l i s = some (headP s (l.drop k)) := by
  subst hi
  unfold emendref06_sign
  rcases drop_cases l k with ⟨h1, h2⟩ | ⟨t, h1, h2, h3⟩
  · rw [h1, decide_eq_false (by omega)]; rfl
  · rw [h2, decide_eq_true (by omega), ix_of h3 rfl]
    simp only [Option.bind_some, andO_some, headP, isP, Bool.true_and]
def paramsR (n : Nat) : Option (List (List UInt8) × Bool × List GTok) → List (List UInt8) × Bool × Int
  | none => ([], false, -1)
  | some (ps, v, r) => (ps, v, (n : Int) - (r.length : Int))
def joinR : Sum Unit (List (List UInt8) × Bool × Int) → List (List UInt8) × Bool × Int
  | .inl _ => ([], false, -1)
  | .inr w => w
theorem dup_loop (l : List GTok) (i : Int) (t : GTok) (out : List (List UInt8)) (ht : ix l i = some t) (hn : out.length ≤ 2800000000000) : ∃ r, loopS (emendref06_params_b4 l i out) 0 = some r ∧ r = if t.text ∈ out then .inr ([], false, -1) else .inl () := by
  obtain ⟨r, g1, g2⟩ := loopS_ix (f := emendref06_params_b4 l i out) out.length (by omega) (fun k x => x = (k : Int) ∧ t.text ∉ out.take k) (fun r => r = if t.text ∈ out then .inr ([], false, -1) else .inl ()) (s0 := (0 : Int)) ⟨rfl, by simp⟩ (by
    rintro k x hk ⟨rfl, hn⟩
    unfold emendref06_params_b4
    rw [if_pos (decide_eq_true (by omega)), ix_at hk, Option.bind_some, ht, Option.bind_some]
    by_cases e : out[k] = t.text
    · right
      rw [if_pos (decide_eq_true e)]
      exact ⟨_, rfl, by rw [if_pos (by rw [← e]; exact List.getElem_mem hk)]⟩
    · left
      rw [if_neg (by simpa using e), chkT (by omega)]
      refine ⟨_, rfl, by push_cast; rfl, fun hm => ?_⟩
      rw [List.take_add_one, List.getElem?_eq_getElem hk] at hm
      rcases List.mem_append.1 hm with hm | hm
      · exact hn hm
      · exact e (List.mem_singleton.1 hm).symm) (by
    rintro x ⟨rfl, hn⟩
    rw [List.take_length] at hn
    refine ⟨.inl (), ?_, by rw [if_neg hn]⟩
    unfold emendref06_params_b4
    exact if_neg (by simp))
  exact ⟨r, g1, g2⟩
theorem rparams_loop (l : List GTok) (h : l.length ≤ 2800000000000) : ∃ r, loopS (emendref06_params_b2 l) (0, []) = some r ∧ joinR r = paramsR l.length (paramsL l []) := by
  refine loopS_rel (f := emendref06_params_b2 l) (fun x => ∃ k : Nat, x.1 = (k : Int) ∧ k ≤ l.length ∧ x.2.length ≤ k ∧ paramsR l.length (paramsL (l.drop k) x.2) = paramsR l.length (paramsL l [])) (fun x => l.length - x.1.toNat) (fun r => joinR r = paramsR l.length (paramsL l [])) (s := ((0 : Int), ([] : List (List UInt8)))) ⟨0, rfl, Nat.zero_le _, Nat.le_refl _, rfl⟩ (by simp only; omega) ?_
  rintro ⟨i, out⟩ ⟨k, rfl, hk, ho, hg⟩
  simp only at ho hg
  unfold emendref06_params_b2
  simp only []
  rw [← hg]
  rcases drop_cases l k with ⟨h1, h2⟩ | ⟨t, h1, h2, h3⟩
  · right
    rw [if_neg (by rw [decide_eq_false (by omega)]; simp), h1]
    exact ⟨_, rfl, rfl⟩
  rw [if_pos (decide_eq_true (by omega)), rsgn_eq l k _ rfl, Option.bind_some, h2, paramsL_cons]
  rw [show headP ([46, 46, 46] : List UInt8) (t :: l.drop (k + 1)) = isP dots t from rfl]
  by_cases hd : isP dots t = true
  · right
    rw [if_pos hd, if_pos hd, chkT (by omega), rsgn_eq l (k + 1) _ (by push_cast; rfl), Option.bind_some]
    by_cases h5 : headP [41] (l.drop (k + 1)) = true
    · rw [if_pos h5, if_pos h5, chkT (by omega)]
      refine ⟨_, rfl, ?_⟩
      have h6 : k + 1 < l.length := by
        rcases Nat.lt_or_ge (k + 1) l.length with h | h
        · exact h
        · rw [List.drop_eq_nil_of_le h] at h5; cases h5
      simp only [joinR, paramsR, List.length_drop]
      congr 2
      omega
    · rw [if_neg h5, if_neg h5]
      exact ⟨_, rfl, rfl⟩
  rw [if_neg hd, if_neg hd, ix_of h3 rfl, Option.bind_some, Option.bind_some, orO_some, Option.bind_some]
  by_cases hb : t.kind ≠ 1 ∨ t.text = vaN
  · right
    have e1 : (!decide (t.kind = (1 : Int)) || decide (t.text = ([95, 95, 86, 65, 95, 65, 82, 71, 83, 95, 95] : List UInt8))) = true := by
      rcases hb with hb | hb
      · rw [decide_eq_false hb]; rfl
      · rw [show decide (t.text = ([95, 95, 86, 65, 95, 65, 82, 71, 83, 95, 95] : List UInt8)) = true from decide_eq_true hb]; simp
    rw [if_pos e1, if_pos (hb.elim .inl (fun h => .inr (.inl h)))]
    exact ⟨_, rfl, rfl⟩
  have e1 : (!decide (t.kind = (1 : Int)) || decide (t.text = ([95, 95, 86, 65, 95, 65, 82, 71, 83, 95, 95] : List UInt8))) = false := by
    rw [decide_eq_true (Classical.not_not.1 fun h => hb (.inl h)), show decide (t.text = ([95, 95, 86, 65, 95, 65, 82, 71, 83, 95, 95] : List UInt8)) = false from decide_eq_false fun h => hb (.inr h)]; rfl
  rw [if_neg (by rw [e1]; simp)]
  obtain ⟨r, g1, g2⟩ := dup_loop l k t out (ix_of h3 rfl) (by omega)
  rw [g1, Option.bind_some]
  by_cases hm : t.text ∈ out
  · right
    rw [if_pos hm] at g2
    rw [g2, if_pos (.inr (.inr hm))]
    exact ⟨_, rfl, rfl⟩
  rw [if_neg hm] at g2
  have e2 : ¬ (t.kind ≠ 1 ∨ t.text = vaN ∨ t.text ∈ out) := by
    rintro (h | h | h)
    · exact hb (.inl h)
    · exact hb (.inr h)
    · exact hm h
  rw [g2, if_neg e2]
  show (∃ s', emendref06_params_j3 l k out () = _ ∧ _) ∨ ∃ r, emendref06_params_j3 l k out () = _ ∧ _
  unfold emendref06_params_j3
  rw [ix_of h3 rfl, Option.bind_some, chkT (by omega), chkT (by omega), rsgn_eq l (k + 1) _ (by push_cast; rfl), Option.bind_some, rsgn_eq l (k + 1) _ (by push_cast; rfl), Option.bind_some]
  rcases drop_cases l (k + 1) with ⟨h4, h5⟩ | ⟨u, h4, h5, h6⟩
  · right
    rw [h4]
    refine ⟨.inr ([], false, -1), ?_, rfl⟩
    rw [if_neg (by simp [headP]), chkT (by omega)]; rfl
  · rw [h5]
    simp only []
    by_cases hc : isP [44] u = true
    · left
      have hc2 : ¬ headP [41] (u :: l.drop (k + 1 + 1)) = true := by
        show ¬ isP [41] u = true
        unfold isP at hc ⊢
        simp only [Bool.and_eq_true, decide_eq_true_eq] at hc
        rw [hc.2]; simp
      refine ⟨(((k + 2 : Nat) : Int), out ++ [t.text]), (if_neg hc2).trans ((chkT (by omega)).trans ((if_neg (by rw [show headP [44] (u :: l.drop (k + 1 + 1)) = isP [44] u from rfl, hc]; simp)).trans ((chkT (by omega)).trans (by push_cast; rfl)))), ⟨k + 2, rfl, by omega, by simp only [List.length_append, List.length_cons, List.length_nil]; omega, ?_⟩, by simp only; omega⟩
      rw [if_pos hc]
    · right
      rw [if_neg hc]
      by_cases h7 : isP [41] u = true
      · refine ⟨_, (if_pos h7).trans (chkT (by omega)), ?_⟩
        rw [if_pos h7]
        simp only [joinR, paramsR, List.length_drop]
        congr 2
        omega
      · refine ⟨_, (if_neg h7).trans ((chkT (by omega)).trans (if_pos (by rw [show headP [44] (u :: l.drop (k + 1 + 1)) = isP [44] u from rfl, Bool.eq_false_iff.2 hc]; rfl))), ?_⟩
        rw [if_neg h7]
        rfl
theorem rparams_eq (l : List GTok) (h : l.length ≤ 2800000000000) : emendref06_params l = some (paramsR l.length (paramsA l)) := by
  unfold emendref06_params paramsA
  rw [rsgn_eq l 0 _ (i := 0) rfl, Option.bind_some, List.drop_zero]
  by_cases h4 : headP [41] l = true
  · rw [if_pos h4, if_pos h4]
    have : 1 ≤ l.length := by cases l with | nil => cases h4 | cons t r => simp only [List.length_cons]; omega
    simp only [paramsR, List.length_drop]
    congr 3
    omega
  · rw [if_neg h4, if_neg h4]
    obtain ⟨r, g1, g2⟩ := rparams_loop l h
    rw [g1, Option.bind_some, ← g2]
    cases r <;> rfl
end Go.Sh
