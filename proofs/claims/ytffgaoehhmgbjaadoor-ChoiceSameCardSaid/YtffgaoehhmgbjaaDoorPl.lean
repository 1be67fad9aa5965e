/-
  Loops that count, in plain words. No program in sight.
-/
import Derived.Test.YtffgaoehhmgbjaaDoorSh
set_option linter.unusedVariables false
namespace Go.Sh
theorem loopS_ix {σ ρ : Type} {f : σ → Option (Step σ ρ)} (n : Nat) (hn : n ≤ 9223372036854775807) (I : Nat → σ → Prop) (R : ρ → Prop) {s0 : σ} (h0 : I 0 s0)
    (step : ∀ k s, k < n → I k s → (∃ s', f s = some (.next s') ∧ I (k + 1) s') ∨ ∃ r, f s = some (.done r) ∧ R r)
    (last : ∀ s, I n s → ∃ r, f s = some (.done r) ∧ R r) : ∃ r, loopS f s0 = some r ∧ R r := by
  have key : ∀ (m k : Nat) (s : σ), n - k < m → k ≤ n → I k s → ∃ r, iterS f m s = some r ∧ R r := by
    intro m
    induction m with
    | zero => intro k s h; exact absurd h (Nat.not_lt_zero _)
    | succ m ih =>
      intro k s hm hk hi
      unfold iterS
      by_cases hlt : k < n
      · rcases step k s hlt hi with ⟨s', h1, h2⟩ | ⟨r, h1, h2⟩
        · rw [h1]; exact ih (k + 1) s' (by omega) (by omega) h2
        · rw [h1]; exact ⟨r, rfl, h2⟩
      · obtain rfl : k = n := by omega
        obtain ⟨r, h1, h2⟩ := last s hi
        rw [h1]; exact ⟨r, rfl, h2⟩
  exact key _ 0 s0 (by omega) (Nat.zero_le _) h0
theorem foldS_rel {σ ρ α : Type} {f : σ → α → Option (Step σ ρ)} {l : List α} (I : Nat → σ → Prop) {s0 : σ} (h0 : I 0 s0)
    (step : ∀ k s x, l[k]? = some x → I k s → ∃ s', f s x = some (.next s') ∧ I (k + 1) s') : ∃ s, foldS f l s0 = some (.inl s) ∧ I l.length s := by
  have key : ∀ (r : List α) (k : Nat) (s : σ), l.drop k = r → k ≤ l.length → I k s → ∃ s', foldS f r s = some (.inl s') ∧ I l.length s' := by
    intro r
    induction r with
    | nil =>
      intro k s hd hk hi
      have := List.drop_eq_nil_iff.1 hd
      obtain rfl : k = l.length := by omega
      exact ⟨s, rfl, hi⟩
    | cons x r ih =>
      intro k s hd hk hi
      have hx : l[k]? = some x := by
        have h1 : (l.drop k)[0]? = some x := by rw [hd]; rfl
        simpa using h1
      have hlt := (List.getElem?_eq_some_iff.1 hx).1
      obtain ⟨s', h1, h2⟩ := step k s x hx hi
      rw [foldS_next h1]
      refine ih (k + 1) s' ?_ (by omega) h2
      rw [← List.drop_drop, hd]; rfl
  exact key l 0 s0 rfl (Nat.zero_le _) h0
theorem bind_of {α β : Type} {x : Option α} {a : α} {k : α → Option β} (h : x = some a) : x.bind k = k a := by rw [h]; rfl
theorem ite_t {α : Type} {b : Bool} {x y : α} (h : b = true) : (if b = true then x else y) = x := if_pos h
theorem ite_f {α : Type} {b : Bool} {x y : α} (h : b = false) : (if b = true then x else y) = y := by rw [h]; rfl
theorem ix_at {α : Type} {l : List α} {k : Nat} (h : k < l.length) : ix l (k : Int) = some l[k] := by rw [ix_nat]; exact List.getElem?_eq_getElem h
end Go.Sh
