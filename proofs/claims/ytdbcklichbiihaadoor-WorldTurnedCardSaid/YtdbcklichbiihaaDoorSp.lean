/-
  Names that lines define, and ask for; the first of a list for which something holds. No program in sight.
-/
import Derived.Test.YtdbcklichbiihaaDoorSo
import Derived.Test.YtdbcklichbiihaaDoorT
set_option linter.unusedVariables false
namespace Go.Sh
def knownF (ks : List (List UInt8)) (x : GLine) : List (List UInt8) := if (x.kind = 8 ∨ x.kind = 9) ∧ 0 < x.toks.length then addS ks (x.toks.take 1) else ks
def askedF (ks : List (List UInt8)) (x : GLine) : List (List UInt8) := if x.kind = 2 ∨ x.kind = 5 ∨ x.kind = 3 ∨ x.kind = 4 then addS ks x.toks else ks
def linesO (F : List (List UInt8) → GLine → List (List UInt8)) : Nat → List GFile → List (List UInt8) → Option (List (List UInt8))
  | _, [], ks => some ks
  | i, f :: r, ks => (pptok_Tokens (i : Int) f.text).bind fun l => (direct_Lines l).bind fun xs => Sh.chk (xs.length ≤ 9223372036854775806 ∧ ∀ x ∈ xs, x.toks.length ≤ 9223372036854775806) (linesO F (i + 1) r (xs.foldl F ks))
def world_known (fs : List GFile) : Option (List (List UInt8)) := Sh.chk (fs.length ≤ 9223372036854775806) (linesO knownF 0 fs [])
def world_Known (fs : List GFile) : Option (List (List UInt8)) := (world_known fs).bind fun ks => Sh.chk (ks.Nodup ∧ (ks.length + 1) * 16 ≤ 140737488355328) (some (sortS ks))
/-- the texts "defined" and "__VA_ARGS__" -/
def notNames : List (List UInt8) := [[100, 101, 102, 105, 110, 101, 100], [95, 95, 86, 65, 95, 65, 82, 71, 83, 95, 95]]
def world_Names (fs : List GFile) : Option (List (List UInt8) × Int) := Sh.chk (fs.length ≤ 9223372036854775806) ((linesO askedF 0 fs []).bind fun ks => (world_Known fs).bind fun kn => Sh.chk (kn.length ≤ 1000000 ∧ ks.Nodup ∧ ks.length ≤ 4000000) (if 8 < ((sortS ks).filter fun n => !decide (n ∈ kn ++ notNames)).length then some ([], 110) else some ((sortS ks).filter fun n => !decide (n ∈ kn ++ notNames), 0)))
def idxF (p : List UInt8 → Bool) : Nat → List (List UInt8) → Int
  | _, [] => -1
  | k, y :: r => if p y = true then (k : Int) else idxF p (k + 1) r
theorem idxF_none {p : List UInt8 → Bool} : ∀ (l : List (List UInt8)) (k : Nat), idxF p k l = -1 → l.filter (fun y => !p y) = l
  | [], k, h => rfl
  | y :: r, k, h => by
    rw [idxF] at h
    cases hp : p y with
    | true => rw [hp, if_pos rfl] at h; omega
    | false =>
      rw [hp, if_neg (by simp)] at h
      rw [List.filter_cons, hp, idxF_none r (k + 1) h]; rfl
theorem idxF_some {p : List UInt8 → Bool} : ∀ (l : List (List UInt8)) (k : Nat), idxF p k l ≠ -1 → ∃ j, ∃ h : j < l.length, idxF p k l = ((k + j : Nat) : Int) ∧ p l[j] = true ∧ (l.take j).filter (fun y => !p y) = l.take j
  | [], k, h => (h rfl).elim
  | y :: r, k, h => by
    rw [idxF] at h ⊢
    cases hp : p y with
    | true => exact ⟨0, by simp, by rw [if_pos rfl]; rfl, by simpa using hp, rfl⟩
    | false =>
      rw [hp, if_neg (by simp)] at h
      obtain ⟨j, hj, h1, h2, h3⟩ := idxF_some r (k + 1) h
      refine ⟨j + 1, by simpa using hj, by rw [if_neg (by simp), h1]; congr 1; omega, by simpa using h2, ?_⟩
      rw [List.take_succ_cons, List.filter_cons, hp, h3]; rfl
theorem idxF_drop {p : List UInt8 → Bool} (l : List (List UInt8)) (j : Nat) (h : j < l.length) : idxF p j (l.drop j) = if p l[j] = true then (j : Int) else idxF p (j + 1) (l.drop (j + 1)) := by rw [List.drop_eq_getElem_cons h, idxF]
end Go.Sh
