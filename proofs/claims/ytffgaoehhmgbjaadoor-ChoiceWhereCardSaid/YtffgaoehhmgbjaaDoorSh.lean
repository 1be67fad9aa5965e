/-
  Plain words for what code computes: checks, steps, loops that run till they are done. No program in sight.
-/
import Derived.WalkKit
set_option linter.unusedVariables false
namespace Go.Sh

/-- go on if this holds -/
def chk {α : Type} (p : Prop) [Decidable p] (k : Option α) : Option α := if p then k else none
theorem chk_iff {α : Type} {p : Prop} [Decidable p] {k : Option α} {r : α} : chk p k = some r ↔ p ∧ k = some r := by
  unfold chk; split
  · rename_i h; exact ⟨fun e => ⟨h, e⟩, fun e => e.2⟩
  · rename_i h; exact ⟨fun e => (by cases e), fun e => (h e.1).elim⟩
theorem chk_of {α : Type} {p : Prop} [Decidable p] (h : p) (k : Option α) : chk p k = k := if_pos h
theorem chk_some {α : Type} {p : Prop} [Decidable p] {k : Option α} {r : α} (h : chk p k = some r) : p ∧ k = some r := chk_iff.1 h
theorem bind_some {α β : Type} {x : Option α} {k : α → Option β} {r : β} (h : x.bind k = some r) : ∃ a, x = some a ∧ k a = some r := by
  cases x with
  | none => cases h
  | some a => exact ⟨a, rfl, h⟩
theorem ite_pos {α : Type} {b : Bool} {x y : Option α} {r : α} (hb : b = true) (h : (if b = true then x else y) = some r) : x = some r := by rwa [if_pos hb] at h
theorem ite_neg {α : Type} {b : Bool} {x y : Option α} {r : α} (hb : b = false) (h : (if b = true then x else y) = some r) : y = some r := by rwa [if_neg (by rw [hb]; simp)] at h
theorem some_inj {α : Type} {a b : α} (h : some a = some b) : a = b := by injection h

def ix {α : Type} (l : List α) (n : Int) : Option α := if 0 ≤ n then l[n.toNat]? else none
theorem ix_spec {α : Type} {l : List α} {n : Int} {x : α} (h : ix l n = some x) : 0 ≤ n ∧ l[n.toNat]? = some x := by
  unfold ix at h; split at h
  · rename_i h0; exact ⟨h0, h⟩
  · cases h
theorem ix_lt {α : Type} {l : List α} {n : Int} {x : α} (h : ix l n = some x) : n.toNat < l.length := (List.getElem?_eq_some_iff.1 (ix_spec h).2).1
theorem ix_nat {α : Type} {l : List α} {k : Nat} : ix l (k : Int) = l[k]? := by unfold ix; rw [if_pos (Int.natCast_nonneg k)]; rfl
abbrev I64 (x : Int) : Prop := -9223372036854775808 ≤ x ∧ x ≤ 9223372036854775807
def andO (c : Bool) (k : Option Bool) : Option Bool := if c = true then k else some false
def orO (c : Bool) (k : Option Bool) : Option Bool := if c = true then some true else k
theorem andO_some (c d : Bool) : andO c (some d) = some (c && d) := by cases c <;> rfl
theorem orO_some (c d : Bool) : orO c (some d) = some (c || d) := by cases c <;> rfl

/-- shifts, and bit by bit, of an int -/
def shl (a b : Int) : Int := IntKind.wrap .i64 (a * 2 ^ (min b.toNat (IntKind.bits .i64)))
def shr (a b : Int) : Int := a.fdiv (2 ^ (min b.toNat (IntKind.bits .i64)))
def band (a b : Int) : Int := IntKind.wrap .i64 (BitVec.ofInt (IntKind.bits .i64) a &&& BitVec.ofInt (IntKind.bits .i64) b).toNat
def bor (a b : Int) : Int := IntKind.wrap .i64 (BitVec.ofInt (IntKind.bits .i64) a ||| BitVec.ofInt (IntKind.bits .i64) b).toNat
inductive Step (σ ρ : Type) where
  | next (s : σ)
  | done (r : ρ)

def iterS {σ ρ : Type} (f : σ → Option (Step σ ρ)) : Nat → σ → Option ρ
  | 0, _ => none
  | n + 1, s => match f s with
    | none => none
    | some (.next s') => iterS f n s'
    | some (.done r) => some r
def loopS {σ ρ : Type} (f : σ → Option (Step σ ρ)) (s : σ) : Option ρ := iterS f 18446744073709551616 s

theorem iterS_of {σ ρ : Type} {f : σ → Option (Step σ ρ)} (Inv : σ → Prop) (μ : σ → Nat) (g : σ → ρ)
    (step : ∀ s, Inv s → (∃ s', f s = some (.next s') ∧ Inv s' ∧ μ s' < μ s ∧ g s' = g s) ∨ f s = some (.done (g s))) : ∀ (n : Nat) (s : σ), μ s < n → Inv s → iterS f n s = some (g s)
  | 0, s, h, _ => absurd h (Nat.not_lt_zero _)
  | n + 1, s, h, hi => by
    unfold iterS
    rcases step s hi with ⟨s', h1, h2, h3, h4⟩ | h1
    · rw [h1]
      simp only
      rw [iterS_of Inv μ g step n s' (by omega) h2, h4]
    · rw [h1]
/-- a loop, by what is true at its head, how far it is from its end, and what comes of each state -/
theorem loopS_of {σ ρ : Type} {f : σ → Option (Step σ ρ)} (Inv : σ → Prop) (μ : σ → Nat) (g : σ → ρ) {s : σ} (hi : Inv s) (hm : μ s < 18446744073709551616)
    (step : ∀ s, Inv s → (∃ s', f s = some (.next s') ∧ Inv s' ∧ μ s' < μ s ∧ g s' = g s) ∨ f s = some (.done (g s))) : loopS f s = some (g s) := iterS_of Inv μ g step _ s hm hi
/-- the same, what comes of it told by a relation -/
theorem iterS_rel {σ ρ : Type} {f : σ → Option (Step σ ρ)} (Inv : σ → Prop) (μ : σ → Nat) (R : ρ → Prop)
    (step : ∀ s, Inv s → (∃ s', f s = some (.next s') ∧ Inv s' ∧ μ s' < μ s) ∨ ∃ r, f s = some (.done r) ∧ R r) : ∀ (n : Nat) (s : σ), μ s < n → Inv s → ∃ r, iterS f n s = some r ∧ R r
  | 0, s, h, _ => absurd h (Nat.not_lt_zero _)
  | n + 1, s, h, hi => by
    unfold iterS
    rcases step s hi with ⟨s', h1, h2, h3⟩ | ⟨r, h1, h2⟩
    · rw [h1]
      simp only
      exact iterS_rel Inv μ R step n s' (by omega) h2
    · rw [h1]; exact ⟨r, rfl, h2⟩
theorem loopS_rel {σ ρ : Type} {f : σ → Option (Step σ ρ)} (Inv : σ → Prop) (μ : σ → Nat) (R : ρ → Prop) {s : σ} (hi : Inv s) (hm : μ s < 18446744073709551616)
    (step : ∀ s, Inv s → (∃ s', f s = some (.next s') ∧ Inv s' ∧ μ s' < μ s) ∨ ∃ r, f s = some (.done r) ∧ R r) : ∃ r, loopS f s = some r ∧ R r := iterS_rel Inv μ R step _ s hm hi
/-- a step for each of a list, till one is the last -/
def foldS {σ ρ α : Type} (f : σ → α → Option (Step σ ρ)) : List α → σ → Option (σ ⊕ ρ)
  | [], s => some (.inl s)
  | x :: l, s => match f s x with
    | none => none
    | some (.next s') => foldS f l s'
    | some (.done r) => some (.inr r)
theorem foldS_next {σ ρ α : Type} {f : σ → α → Option (Step σ ρ)} {x : α} {l : List α} {s s' : σ} (h : f s x = some (.next s')) : foldS f (x :: l) s = foldS f l s' := by simp only [foldS, h]
theorem foldS_done {σ ρ α : Type} {f : σ → α → Option (Step σ ρ)} {x : α} {l : List α} {s : σ} {r : ρ} (h : f s x = some (.done r)) : foldS f (x :: l) s = some (.inr r) := by simp only [foldS, h]
end Go.Sh
