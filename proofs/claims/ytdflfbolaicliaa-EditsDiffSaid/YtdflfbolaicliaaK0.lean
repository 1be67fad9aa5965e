/-
  Loops over a list, in plain words: the first that answers; two lists that are the same. No program in sight.
-/
import Derived.Test.YtdflfbolaicliaaAm
set_option linter.unusedVariables false
set_option linter.unusedSimpArgs false
namespace Go.Sh
open Go
theorem loopS_findB {α ρ : Type} {f : Int → Option (Step Int (Sum Unit ρ))} (l : List α) (p : α → Bool) (v : ρ) (hn : l.length ≤ 9223372036854775806)
    (step : ∀ (k : Nat) (h : k < l.length), f k = if p l[k] = true then some (.done (.inr v)) else some (.next ((k + 1 : Nat) : Int)))
    (last : f l.length = some (.done (.inl ()))) : loopS f 0 = some (if l.any p = true then .inr v else .inl ()) := by
  obtain ⟨r, h1, h2⟩ := loopS_ix (f := f) l.length (by omega) (fun k x => x = (k : Int) ∧ (l.take k).any p = false) (fun r => r = if l.any p = true then .inr v else .inl ()) (s0 := (0 : Int)) ⟨rfl, rfl⟩ (by
    rintro k x hk ⟨rfl, h⟩
    rw [step k hk]
    by_cases hp : p l[k] = true
    · right
      refine ⟨_, if_pos hp, ?_⟩
      rw [if_pos (List.any_eq_true.2 ⟨l[k], List.getElem_mem hk, hp⟩)]
    · left
      refine ⟨_, if_neg hp, rfl, ?_⟩
      rw [List.take_add_one, List.getElem?_eq_getElem hk, List.any_append, h]
      simp [hp]) (by
    rintro x ⟨rfl, h⟩
    rw [List.take_length] at h
    refine ⟨_, last, ?_⟩
    rw [h]; rfl)
  rw [h1, h2]
theorem loopS_sameB {α β ρ : Type} {f : Int → Option (Step Int (Sum Unit ρ))} (a b : List α) (key : α → β) [DecidableEq β] (v : ρ) (hn : a.length ≤ 9223372036854775806) (hab : a.length = b.length)
    (step : ∀ (k : Nat) (h : k < a.length) (h2 : k < b.length), f k = if key a[k] = key b[k] then some (.next ((k + 1 : Nat) : Int)) else some (.done (.inr v)))
    (last : f a.length = some (.done (.inl ()))) : loopS f 0 = some (if a.map key = b.map key then .inl () else .inr v) := by
  obtain ⟨r, h1, h2⟩ := loopS_ix (f := f) a.length (by omega) (fun k x => x = (k : Int) ∧ (a.take k).map key = (b.take k).map key) (fun r => r = if a.map key = b.map key then .inl () else .inr v) (s0 := (0 : Int)) ⟨rfl, rfl⟩ (by
    rintro k x hk ⟨rfl, h⟩
    have hk2 : k < b.length := by omega
    rw [step k hk hk2]
    by_cases hp : key a[k] = key b[k]
    · left
      refine ⟨_, if_pos hp, rfl, ?_⟩
      rw [List.take_add_one, List.getElem?_eq_getElem hk, List.take_add_one, List.getElem?_eq_getElem hk2, List.map_append, List.map_append, h]
      simp [hp]
    · right
      refine ⟨_, if_neg hp, ?_⟩
      rw [if_neg]
      intro e
      have e2 := congrArg (fun l => l[k]?) e
      simp only [List.getElem?_map, List.getElem?_eq_getElem hk, List.getElem?_eq_getElem hk2, Option.map_some, Option.some.injEq] at e2
      exact hp e2) (by
    rintro x ⟨rfl, h⟩
    rw [List.take_length, hab, List.take_length] at h
    refine ⟨_, last, ?_⟩
    rw [if_pos h])
  rw [h1, h2]
theorem andO_true {k : Option Bool} : andO true k = k := rfl
theorem andO_false {k : Option Bool} : andO false k = some false := rfl
theorem orO_true {k : Option Bool} : orO true k = some true := rfl
theorem orO_false {k : Option Bool} : orO false k = k := rfl
theorem i64_small {k : Int} (h1 : -9000000000000000000 ≤ k) (h2 : k ≤ 9000000000000000000) : I64 k := by unfold I64; omega
theorem fl_nat (k : Nat) : ((k : Int) + 1) = ((k + 1 : Nat) : Int) := by omega
theorem dT {p : Prop} [Decidable p] (h : p) : decide p = true := decide_eq_true h
theorem dF {p : Prop} [Decidable p] (h : ¬ p) : decide p = false := decide_eq_false h
end Go.Sh
