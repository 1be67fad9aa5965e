/-
  The law MacroBack. No program in sight.
-/
import Derived.Test.YtghnfeflknfclaaDoorG9
set_option linter.unusedVariables false
set_option linter.unusedSimpArgs false
namespace Go.Sh
open Go
/-- what a text's tokens are from some token on: the tokens of a part of it; the first one's blank set aside -/
def clearP : List PT → List PT
  | [] => []
  | p :: r => ⟨p.kind, p.text, p.i, p.j, false⟩ :: r
theorem toks_clear (n : Nat) : ∀ (i : Nat) (b : Bool) (u : List UInt8), u.length ≤ n → ∃ i2 u2, clearP (toks i b u) = toks i2 false u2 ∧ (u2 ≠ [] → blankLen u2 = 0) ∧ u2.length ≤ u.length := by
  induction n with
  | zero =>
    intro i b u h
    have : u = [] := List.length_eq_zero_iff.1 (by omega)
    subst this
    exact ⟨0, [], by rw [toks_nil, toks_nil]; rfl, fun h => (h rfl).elim, Nat.le_refl _⟩
  | succ n ih =>
    intro i b u h
    by_cases hu : u = []
    · subst hu
      exact ⟨0, [], by rw [toks_nil, toks_nil]; rfl, fun h => (h rfl).elim, Nat.le_refl _⟩
    by_cases hb : 0 < blankLen u
    · rw [toks_blank hb]
      obtain ⟨i2, u2, h1, h2, h3⟩ := ih (i + blankLen u) true (u.drop (blankLen u)) (by rw [List.length_drop]; omega)
      exact ⟨i2, u2, h1, h2, Nat.le_trans h3 (by rw [List.length_drop]; omega)⟩
    · refine ⟨i, u, ?_, fun _ => by omega, Nat.le_refl _⟩
      rw [toks_tok hu (by omega), toks_tok hu (by omega)]; rfl
theorem toks_drop (n : Nat) : ∀ (k i : Nat) (b : Bool) (u : List UInt8), u.length ≤ n → ∃ i2 b2 u2, (toks i b u).drop k = toks i2 b2 u2 ∧ u2.length ≤ u.length := by
  induction n with
  | zero =>
    intro k i b u h
    have : u = [] := List.length_eq_zero_iff.1 (by omega)
    subst this
    exact ⟨0, false, [], by rw [toks_nil, toks_nil]; simp, Nat.le_refl _⟩
  | succ n ih =>
    intro k i b u h
    by_cases hu : u = []
    · subst hu
      exact ⟨0, false, [], by rw [toks_nil, toks_nil]; simp, Nat.le_refl _⟩
    cases k with
    | zero => exact ⟨i, b, u, rfl, Nat.le_refl _⟩
    | succ k =>
      by_cases hb : 0 < blankLen u
      · rw [toks_blank hb]
        obtain ⟨i2, b2, u2, h1, h2⟩ := ih (k + 1) (i + blankLen u) true (u.drop (blankLen u)) (by rw [List.length_drop]; omega)
        exact ⟨i2, b2, u2, h1, Nat.le_trans h2 (by rw [List.length_drop]; omega)⟩
      · have := nextTok_pos u
        rw [toks_tok hu (by omega), List.drop_succ_cons]
        obtain ⟨i2, b2, u2, h1, h2⟩ := ih k (i + (nextTok u).2) false (u.drop (nextTok u).2) (by rw [List.length_drop]; omega)
        exact ⟨i2, b2, u2, h1, Nat.le_trans h2 (by rw [List.length_drop]; omega)⟩
theorem clear_tokOf (f : Int) (l : List GChar) (ps : List PT) : (clear (ps.map (tokOf f l))).map tk = (clearP ps).map ptk := by
  cases ps with
  | nil => rfl
  | cons p r =>
    show _ :: ((r.map (tokOf f l)).map tk) = _ :: r.map ptk
    rw [List.map_map]; rfl
/-- the body of what was defined, out of the text's tokens -/
theorem define_body (l : List GTok) (m : GMacro) (h : defineS l = .inr m) : ∃ k, m.body = clear (l.drop k) := by
  cases l with
  | nil => cases h
  | cons t rest =>
    rw [defineS_cons] at h
    split at h
    · cases h
    split at h
    · split at h
      · cases h
      · rename_i ps v r hA
        have := withBody_inr h
        subst this
        refine ⟨1 + 1 + ((rest.drop 1).length - r.length), ?_⟩
        rw [← List.drop_drop, ← List.drop_drop]
        show clear r = clear ((rest.drop 1).drop ((rest.drop 1).length - r.length))
        rw [paramsA_drop hA]
    split at h
    · have := withBody_inr h
      subst this
      exact ⟨1, rfl⟩
    · cases h
theorem paramsL_ok (n : Nat) : ∀ (l : List GTok) (ps ps' : List (List UInt8)) (v : Bool) (r : List GTok), l.length ≤ n → paramsL l ps = some (ps', v, r) → ∃ q, ps' = ps ++ q ∧ okL q ps = true ∧ ∀ x ∈ q, ∃ t ∈ l, t.kind = 1 ∧ t.text = x := by
  induction n with
  | zero => intro l ps ps' v r hl h; cases l with | nil => cases h | cons t r => simp at hl
  | succ n ih =>
    intro l ps ps' v r0 hl h
    cases l with
    | nil => cases h
    | cons t r =>
      rw [paramsL_cons] at h
      split at h
      · split at h
        · injection h with h; injection h with h1 h
          exact ⟨[], by rw [← h1, List.append_nil], rfl, fun x hx => by cases hx⟩
        · cases h
      split at h
      · cases h
      rename_i hk
      have hk1 : t.kind = 1 := Classical.not_not.1 fun q => hk (.inl q)
      have hk2 : ¬ (t.text = vaN ∨ t.text ∈ ps) := fun q => hk (.inr q)
      cases r with
      | nil => cases h
      | cons u r' =>
        simp only [] at h
        split at h
        · obtain ⟨q, h1, h2, h3⟩ := ih r' _ _ _ _ (by simp only [List.length_cons] at hl; omega) h
          refine ⟨t.text :: q, by rw [h1, List.append_assoc]; rfl, ?_, ?_⟩
          · unfold okL; rw [decide_eq_false hk2, h2]; rfl
          · intro x hx
            rcases List.mem_cons.1 hx with rfl | hx
            · exact ⟨t, by simp, hk1, rfl⟩
            · obtain ⟨w, hw, hw2⟩ := h3 x hx
              exact ⟨w, by simp [hw], hw2⟩
        split at h
        · injection h with h; injection h with h1 h
          refine ⟨[t.text], by rw [← h1], ?_, ?_⟩
          · unfold okL okL; rw [decide_eq_false hk2]; rfl
          · intro x hx
            obtain rfl : x = t.text := by simpa using hx
            exact ⟨t, by simp, hk1, rfl⟩
        · cases h
/-- what is known of a macro that was defined -/
structure Made (s : List UInt8) (m : GMacro) : Prop where
  name : Word m.name
  n1 : m.name ≠ dfN
  n2 : m.name ≠ vaN
  ok : okL m.params [] = true
  words : ∀ x ∈ m.params, Word x
  body : bodyE m = .inr ()
  plain : m.func = false → m.params = [] ∧ m.variadic = false
  from_ : ∃ k, m.body = clear ((tokens 0 s).drop k)
theorem made (s : List UInt8) (m : GMacro) (h : defineS (tokens 0 s) = .inr m) : Made s m := by
  have hw := tokens_word 0 s
  obtain ⟨k, hk⟩ := define_body _ _ h
  generalize hl : tokens 0 s = l at h hw hk
  cases l with
  | nil => cases h
  | cons t rest =>
    rw [defineS_cons] at h
    split at h
    · cases h
    rename_i hn
    have k1 : t.kind = 1 := Classical.not_not.1 fun q => hn (.inl q)
    have hwt : Word t.text := hw t (by simp) k1
    have wb : ∀ m' : GMacro, withBody m' = .inr m → bodyE m' = .inr () := by
      intro m' h
      unfold withBody at h
      split at h
      · cases h
      · rename_i u hu; rw [hu]
    split at h
    · split at h
      · cases h
      · rename_i ps v r hA
        have e := withBody_inr h
        have hb := wb _ h
        rw [← e] at hb
        subst e
        have hp : okL ps [] = true ∧ ∀ x ∈ ps, Word x := by
          unfold paramsA at hA
          split at hA
          · injection hA with hA; injection hA with h1 _; subst h1
            exact ⟨rfl, fun x hx => by cases hx⟩
          · obtain ⟨q, h1, h2, h3⟩ := paramsL_ok _ _ _ _ _ _ (Nat.le_refl _) hA
            rw [List.nil_append] at h1
            subst h1
            refine ⟨h2, fun x hx => ?_⟩
            obtain ⟨w, hw1, hw2, rfl⟩ := h3 x hx
            exact hw w (by simp [List.mem_of_mem_drop hw1]) hw2
        exact ⟨hwt, fun q => hn (.inr (.inl q)), fun q => hn (.inr (.inr q)), hp.1, hp.2, hb, (fun q => by cases q), ⟨k, by rw [hl]; exact hk⟩⟩
    split at h
    · have e := withBody_inr h
      have hb := wb _ h
      rw [← e] at hb
      subst e
      exact ⟨hwt, fun q => hn (.inr (.inl q)), fun q => hn (.inr (.inr q)), rfl, (fun x hx => by cases hx), hb, fun _ => ⟨rfl, rfl⟩, ⟨k, by rw [hl]; exact hk⟩⟩
    · cases h
/-- .. its body, told again -/
theorem Made.again {s : List UInt8} {m : GMacro} (h : Made s m) (h6 : ∀ t ∈ m.body, t.kind ≠ 6) : has2 92 10 (printT m.body) = false ∧ (∀ j, (toks j false (printT m.body)).map ptk = m.body.map tk) ∧ headBlank m.body = false := by
  obtain ⟨k, hk⟩ := h.from_
  have hk' := hk
  unfold tokens at hk
  rw [← List.map_drop] at hk
  obtain ⟨i1, b1, u1, h1, _⟩ := toks_drop _ k 0 false ((charsAt 0 s).map GChar.b) (Nat.le_refl _)
  rw [h1] at hk
  obtain ⟨i2, u2, h2, _, _⟩ := toks_clear _ i1 b1 u1 (Nat.le_refl _)
  have htk : m.body.map tk = (toks i2 false u2).map ptk := by rw [hk, clear_tokOf, h2]
  have hp : printT m.body = printP (toks i2 false u2) := by
    have e1 : ∀ l : List GTok, printT l = (l.map tk).flatMap (fun x => (if x.2.2 = true then [32] else []) ++ x.2.1) := fun l => by
      unfold printT; rw [List.flatMap_map]; rfl
    have e2 : ∀ l : List PT, printP l = (l.map ptk).flatMap (fun x => (if x.2.2 = true then [32] else []) ++ x.2.1) := fun l => by
      unfold printP; rw [List.flatMap_map]; rfl
    rw [e1, e2, htk]
  have k6 : ∀ p ∈ toks i2 false u2, p.kind ≠ 6 := by
    intro p hp e
    have hm : ptk p ∈ m.body.map tk := by rw [htk]; exact List.mem_map_of_mem hp
    obtain ⟨t, ht, e2⟩ := List.mem_map.1 hm
    exact h6 t ht ((congrArg (·.1) e2).trans e)
  refine ⟨?_, fun j => ?_, ?_⟩
  · rw [hp]; exact printP_safe _ _ _ _ (Nat.le_refl _) k6
  · rw [hp, htk]; exact retell _ _ _ _ _ (Nat.le_refl _) k6
  · rw [hk']
    cases (tokens 0 s).drop k <;> rfl
end Go.Sh
