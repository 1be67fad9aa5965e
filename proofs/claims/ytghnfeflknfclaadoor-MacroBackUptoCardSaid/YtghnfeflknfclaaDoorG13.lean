/-
  The law MacroBack, whole. No program in sight.
-/
import Derived.Test.YtghnfeflknfclaaDoorG12
set_option linter.unusedVariables false
set_option linter.unusedSimpArgs false
namespace Go.Sh
open Go
theorem defineF_sizes (l : List GTok) : (defineF l).1.name.length ≤ (printT l).length ∧ (defineF l).1.params.flatten.length ≤ (printT l).length ∧ (printT (defineF l).1.body).length ≤ (printT l).length := by
  refine ⟨?_, ?_, ?_⟩ <;>
  · unfold defineF
    cases hS : defineS l with
    | inl e => exact Nat.zero_le _
    | inr m =>
      simp only []
      cases l with
      | nil => cases hS
      | cons t rest =>
        rw [defineS_cons] at hS
        have ht := text_le t
        rw [printT_cons]
        have h2 := printT_drop rest
        split at hS
        · cases hS
        split at hS
        · split at hS
          · cases hS
          · rename_i ps v r hA
            have := withBody_inr hS
            subst this
            have := paramsA_size hA
            have h3 := printT_clear r
            simp only
            omega
        split at hS
        · have := withBody_inr hS
          subst this
          have h3 := printT_clear rest
          simp only [List.flatten_nil, List.length_nil]
          omega
        · cases hS
theorem printM_len (m : GMacro) (h1 : m.name.length ≤ 500) (h2 : m.params.flatten.length ≤ 500) (h3 : m.params.length ≤ 500) (h4 : (printT m.body).length ≤ 500) : (printM m).length ≤ 100000 := by
  have hj : (Lib.join (plist m) [44, 32]).length ≤ 2000 := by
    have := join_len [44, 32] (plist m)
    have e1 : (plist m).flatten.length ≤ 503 := by
      unfold plist
      rw [List.flatten_append, List.length_append]
      by_cases hv : m.variadic = true
      · rw [if_pos hv]
        show _ + 3 ≤ 503
        omega
      · rw [if_neg hv]
        show _ + 0 ≤ 503
        omega
    have e2 : (plist m).length ≤ 501 := by
      unfold plist
      rw [List.length_append]
      split
      · simp; omega
      · simp; omega
    simp only [List.length_cons, List.length_nil] at this
    omega
  have hh : (headM m).length ≤ 3000 := by
    unfold headM
    split
    · simp only [List.length_append, List.length_cons, List.length_nil]; omega
    · omega
  have hc := printT_clear m.body
  unfold printM
  split
  · omega
  · simp only [List.length_append, List.length_cons, List.length_nil]; omega
theorem macroBack_law (s : List UInt8) (hs0 : s.length ≤ 2000000) : emendlaw06_MacroBack s = some true := by
  unfold emendlaw06_MacroBack
  rw [awake6, Option.bind_some, define_eq s hs0, Option.bind_some, orO_some, Option.bind_some]
  by_cases hc : (defineF (tokens 0 s)).2 ≠ 0 ∨ 500 < s.length
  · rw [if_pos (by
      simp only [Bool.or_eq_true, Bool.not_eq_true', decide_eq_false_iff_not, decide_eq_true_eq]
      rcases hc with hc | hc
      · exact .inl hc
      · right; omega)]
  have he : (defineF (tokens 0 s)).2 = 0 := Classical.not_not.1 fun q => hc (.inl q)
  have hs : s.length ≤ 500 := by omega
  rw [if_neg (by
    simp only [Bool.or_eq_true, Bool.not_eq_true', decide_eq_false_iff_not, decide_eq_true_eq]
    omega)]
  have hD : ∃ m, defineS (tokens 0 s) = .inr m := by
    cases hq : defineS (tokens 0 s) with
    | inr m => exact ⟨m, rfl⟩
    | inl e =>
      exfalso
      unfold defineF at he
      rw [hq] at he
      simp only at he
      -- what is wrong is no 0
      have wb : ∀ m', withBody m' ≠ .inl 0 := by
        intro m' h
        unfold withBody bodyE at h
        revert h
        split
        · rename_i e2 h2
          intro h
          injection h with h
          subst h
          revert h2
          split
          · intro h; injection h with h; cases h
          split
          · intro h; injection h with h; cases h
          split
          · intro h; injection h with h; cases h
          · intro h; cases h
        · intro h; cases h
      subst he
      generalize tokens 0 s = l at hq
      cases l with
      | nil => injection hq with hq; cases hq
      | cons t rest =>
        rw [defineS_cons] at hq
        split at hq
        · injection hq with hq; cases hq
        split at hq
        · split at hq
          · injection hq with hq; cases hq
          · exact wb _ hq
        split at hq
        · exact wb _ hq
        · injection hq with hq; cases hq
  obtain ⟨m, hm⟩ := hD
  have hdf : defineF (tokens 0 s) = (m, 0) := by unfold defineF; rw [hm]
  have hsm := small_of s (by omega)
  have hz := defineF_sizes (tokens 0 s)
  have hr := tokens_room 0 s
  have hl := defineF_len (tokens 0 s)
  have htl := tokens_len 0 s
  rw [hdf] at hsm hz hl ⊢
  have hsm : Small m := hsm
  have hz : m.name.length ≤ (printT (tokens 0 s)).length ∧ m.params.flatten.length ≤ (printT (tokens 0 s)).length ∧ (printT m.body).length ≤ (printT (tokens 0 s)).length := hz
  have hl : m.params.length ≤ (tokens 0 s).length ∧ m.body.length ≤ (tokens 0 s).length := hl
  have hmade := made s m hm
  have hfind := loopS_find (f := emendlaw06_MacroBack_b2 true (m, 0)) m.body (fun t => decide (t.kind = 6) || decide (t.kind = 7)) true (by omega) (fun k hk => by
    unfold emendlaw06_MacroBack_b2
    rw [if_pos (decide_eq_true (show (k : Int) < (m.body.length : Int) by omega)), ix_at hk, Option.bind_some, Option.bind_some, orO_some, Option.bind_some, chkT (by omega)]
    push_cast; rfl) (by
    unfold emendlaw06_MacroBack_b2
    exact if_neg (by simp))
  rw [hfind, Option.bind_some]
  by_cases ha : m.body.any (fun t => decide (t.kind = 6) || decide (t.kind = 7)) = true
  · rw [if_pos ha]
  rw [if_neg ha]
  simp only []
  unfold emendlaw06_MacroBack_j1
  have h6 : ∀ t ∈ m.body, t.kind ≠ 6 := by
    intro t ht e
    exact ha (List.any_eq_true.2 ⟨t, ht, by rw [decide_eq_true e]; rfl⟩)
  have hpl := printM_len m (by omega) (by omega) (by omega) (by omega)
  obtain ⟨r1, r2⟩ := defineF_rel (l1 := tokens 0 s) (l2 := tokens 0 (printM m)) (by rw [hm]; exact made_again hmade h6)
  rw [hdf] at r1 r2
  simp only at r1 r2
  have b1 := hsm.params
  have b2 := hsm.body
  rw [mprint_eq m hsm, Option.bind_some, define_eq _ (by omega), Option.bind_some, msame_eq m _ (by omega) (by omega), Option.bind_some, r2, ← r1]
  simp [andO]
end Go.Sh
