/-
  Lists of tokens that are one, or alike; how they are printed; where a text's first token stands. No program in sight.
-/
import Derived.Test.YtfocleohejljpaaDoorA6
set_option linter.unusedVariables false
set_option linter.unusedSimpArgs false
namespace Go.Sh
open Go
/-- a loop that holds two lists against each other, place by place -/
theorem loopS_same {α β ρ : Type} {f : Int → Option (Step Int (Sum Unit ρ))} (a b : List α) (key : α → β) [DecidableEq β] (v : ρ) (hn : a.length ≤ 9223372036854775806) (hab : a.length = b.length)
    (step : ∀ (k : Nat) (h : k < a.length) (h2 : k < b.length), f k = if key a[k] = key b[k] then some (.next ((k + 1 : Nat) : Int)) else some (.done (.inr v)))
    (last : f a.length = some (.done (.inl ()))) : loopS f 0 = some (if a.map key = b.map key then .inl () else .inr v) := by
  obtain ⟨r, h1, h2⟩ := loopS_ix (f := f) a.length (by omega) (fun k x => x = (k : Int) ∧ (a.take k).map key = (b.take k).map key) (fun r => r = if a.map key = b.map key then .inl () else .inr v) (s0 := (0 : Int)) ⟨rfl, rfl⟩ (by
    rintro k x hk ⟨rfl, h⟩
    have hk2 : k < b.length := by omega
    rw [step k hk hk2]
    by_cases hp : key a[k] = key b[k]
    · left
      refine ⟨_, if_pos hp, rfl, ?_⟩
      rw [List.take_add_one, List.getElem?_eq_getElem hk, List.take_add_one, List.getElem?_eq_getElem hk2, List.map_append, List.map_append, h]
      simp [hp]
    · right
      refine ⟨_, if_neg hp, ?_⟩
      rw [if_neg]
      intro e
      have e2 := congrArg (fun l => l[k]?) e
      simp only [List.getElem?_map, List.getElem?_eq_getElem hk, List.getElem?_eq_getElem hk2, Option.map_some, Option.some.injEq] at e2
      exact hp e2) (by
    rintro x ⟨rfl, h⟩
    rw [List.take_length, hab, List.take_length] at h
    refine ⟨_, last, ?_⟩
    rw [if_pos h])
  rw [h1, h2]
def tk (t : GTok) : Int × List UInt8 × Bool := (t.kind, t.text, t.blank)
/-! ### printed -/
def printOne (t : GTok) : List UInt8 := (if t.blank = true then [32] else []) ++ t.text
def printT (l : List GTok) : List UInt8 := l.flatMap printOne
/-! ### where tokens stand -/
/-- the first token: what is passed over ahead of it, and what is behind it -/
theorem toks_head (n : Nat) : ∀ (i : Nat) (b : Bool) (u : List UInt8) (p : PT) (r : List PT), u.length ≤ n → toks i b u = p :: r →
    ∃ k m : Nat, p.i = i + k ∧ p.j = i + k + m ∧ 1 ≤ m ∧ k + m ≤ u.length ∧ p.text = (u.drop k).take m ∧ nextTok (u.drop k) = (p.kind, m) ∧ blankLen (u.drop k) = 0 ∧ (k = 0 → p.blank = b) ∧ (0 < k → p.blank = true) ∧ r = toks p.j false (u.drop (k + m)) := by
  induction n with
  | zero =>
    intro i b u p r h e
    have : u = [] := List.length_eq_zero_iff.1 (by omega)
    subst this; rw [toks_nil] at e; cases e
  | succ n ih =>
    intro i b u p r h e
    by_cases hu : u = []
    · subst hu; rw [toks_nil] at e; cases e
    by_cases hb : 0 < blankLen u
    · rw [toks_blank hb] at e
      obtain ⟨k, m, h1, h2, h3, h4, h5, h6, h7, h8, h9, h10⟩ := ih _ _ _ p r (by rw [List.length_drop]; omega) e
      have hle := blankLen_le u
      rw [List.length_drop] at h4
      rw [List.drop_drop] at h5 h6 h7 h10
      refine ⟨blankLen u + k, m, by omega, by omega, h3, by omega, h5, h6, h7, fun h => by omega, fun _ => ?_, by rw [h10, Nat.add_assoc]⟩
      by_cases hk : k = 0
      · exact h8 hk
      · exact h9 (by omega)
    · rw [toks_tok hu (by omega)] at e
      injection e with e1 e2
      subst e1
      exact ⟨0, (nextTok u).2, rfl, rfl, nextTok_pos u, by have := nextTok_le u hu; omega, rfl, rfl, by rw [List.drop_zero]; omega, fun _ => rfl, fun h => absurd h (Nat.lt_irrefl _), by rw [← e2, Nat.zero_add]⟩
theorem charsAt_full : ∀ (t : List UInt8) (i : Nat), (charsAt i t).length = t.length → (charsAt i t).map GChar.b = t ∧ ∀ j, j < t.length → atOf (charsAt i t) j = i + j
  | [], i, _ => ⟨rfl, fun j h => absurd h (Nat.not_lt_zero _)⟩
  | [c], i, _ => ⟨rfl, fun j h => by
      have : j = 0 := by simp at h; omega
      subst this; simp [charsAt, atOf]⟩
  | c :: d :: r, i, h => by
    unfold charsAt at h ⊢
    split at h
    · have := charsAt_len r (i + 2); simp only [List.length_cons] at h; omega
    · rename_i hne
      rw [if_neg hne]
      simp only [List.length_cons, Nat.add_right_cancel_iff] at h
      obtain ⟨h1, h2⟩ := charsAt_full (d :: r) (i + 1) (by simpa using h)
      refine ⟨by rw [List.map_cons, h1], fun j hj => ?_⟩
      cases j with
      | zero => simp [atOf]
      | succ j =>
        have := h2 j (by simp only [List.length_cons] at hj ⊢; omega)
        unfold atOf at this ⊢
        rw [List.getElem?_cons_succ, this]; push_cast; omega
theorem tokens_len (file : Int) (t : List UInt8) : (tokens file t).length ≤ t.length := by
  unfold tokens
  rw [List.length_map]
  have h1 := toks_length _ 0 false _ (Nat.le_refl ((charsAt 0 t).map GChar.b).length)
  have h2 := charsAt_len t 0
  rw [List.length_map] at h1; omega
/-- tokens take no more room than what they are told of -/
theorem toks_room (file : Int) (l : List GChar) (n : Nat) : ∀ (i : Nat) (b : Bool) (u : List UInt8), u.length ≤ n → (printT ((toks i b u).map (tokOf file l))).length ≤ (if b = true then 1 else 0) + u.length := by
  induction n with
  | zero =>
    intro i b u h
    have : u = [] := List.length_eq_zero_iff.1 (by omega)
    subst this; rw [toks_nil]; simp [printT]
  | succ n ih =>
    intro i b u h
    by_cases hu : u = []
    · subst hu; rw [toks_nil]; simp [printT]
    by_cases hb : 0 < blankLen u
    · rw [toks_blank hb]
      have := ih (i + blankLen u) true (u.drop (blankLen u)) (by rw [List.length_drop]; omega)
      have hle := blankLen_le u
      rw [List.length_drop, if_pos rfl] at this; omega
    · rw [toks_tok hu (by omega)]
      have h1 := nextTok_pos u
      have h2 := nextTok_le u hu
      have := ih (i + (nextTok u).2) false (u.drop (nextTok u).2) (by rw [List.length_drop]; omega)
      rw [List.length_drop, if_neg (by simp)] at this
      simp only [List.map_cons, printT, List.flatMap_cons, List.length_append] at this ⊢
      have h3 : (printOne (tokOf file l ⟨(nextTok u).1, u.take (nextTok u).2, i, i + (nextTok u).2, b⟩)).length ≤ (if b = true then 1 else 0) + (nextTok u).2 := by
        unfold printOne tokOf
        simp only [List.length_append, List.length_take]
        split <;> simp <;> omega
      omega
theorem tokens_room (file : Int) (t : List UInt8) : (printT (tokens file t)).length ≤ t.length := by
  have := toks_room file (charsAt 0 t) _ 0 false _ (Nat.le_refl ((charsAt 0 t).map GChar.b).length)
  have h2 := charsAt_len t 0
  rw [List.length_map, if_neg (by simp)] at this
  unfold tokens; omega
end Go.Sh
