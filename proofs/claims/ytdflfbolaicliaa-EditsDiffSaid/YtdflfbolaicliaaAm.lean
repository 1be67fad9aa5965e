/-
  Conditions as plain Bools: what the printed functions ask, without instances that depend on it. No program in sight.
-/
import Derived.Test.YtdflfbolaicliaaPl
set_option linter.unusedVariables false
set_option linter.unusedSimpArgs false
namespace Go.Sh
open Go
theorem iteB {α : Type} {b : Bool} {inst : Decidable (b = true)} {x y : α} : @ite α (b = true) inst x y = cond b x y := by cases b <;> simp
theorem iteT {α : Type} {b : Bool} {x y : α} (h : b = true) : cond b x y = x := by rw [h]; rfl
theorem iteF {α : Type} {b : Bool} {x y : α} (h : b = false) : cond b x y = y := by rw [h]; rfl
theorem u8i (c d : UInt8) : ((c.toNat : Int) = (d.toNat : Int)) ↔ c = d := by rw [Int.natCast_inj, UInt8.toNat_inj]
theorem m8 (c d : UInt8) : ((c.toNat : Int) == (d.toNat : Int)) = (c == d) := by
  rw [Bool.eq_iff_iff, beq_iff_eq, u8i, beq_iff_eq]
theorem m8_9 (c : UInt8) : ((c.toNat : Int) == 9) = (c == 9) := m8 c 9
theorem m8_10 (c : UInt8) : ((c.toNat : Int) == 10) = (c == 10) := m8 c 10
theorem m8_11 (c : UInt8) : ((c.toNat : Int) == 11) = (c == 11) := m8 c 11
theorem m8_12 (c : UInt8) : ((c.toNat : Int) == 12) = (c == 12) := m8 c 12
theorem m8_13 (c : UInt8) : ((c.toNat : Int) == 13) = (c == 13) := m8 c 13
theorem m8_32 (c : UInt8) : ((c.toNat : Int) == 32) = (c == 32) := m8 c 32
theorem m8_34 (c : UInt8) : ((c.toNat : Int) == 34) = (c == 34) := m8 c 34
theorem m8_35 (c : UInt8) : ((c.toNat : Int) == 35) = (c == 35) := m8 c 35
theorem m8_39 (c : UInt8) : ((c.toNat : Int) == 39) = (c == 39) := m8 c 39
theorem m8_40 (c : UInt8) : ((c.toNat : Int) == 40) = (c == 40) := m8 c 40
theorem m8_41 (c : UInt8) : ((c.toNat : Int) == 41) = (c == 41) := m8 c 41
theorem m8_42 (c : UInt8) : ((c.toNat : Int) == 42) = (c == 42) := m8 c 42
theorem m8_43 (c : UInt8) : ((c.toNat : Int) == 43) = (c == 43) := m8 c 43
theorem m8_44 (c : UInt8) : ((c.toNat : Int) == 44) = (c == 44) := m8 c 44
theorem m8_45 (c : UInt8) : ((c.toNat : Int) == 45) = (c == 45) := m8 c 45
theorem m8_46 (c : UInt8) : ((c.toNat : Int) == 46) = (c == 46) := m8 c 46
theorem m8_47 (c : UInt8) : ((c.toNat : Int) == 47) = (c == 47) := m8 c 47
theorem m8_48 (c : UInt8) : ((c.toNat : Int) == 48) = (c == 48) := m8 c 48
theorem m8_60 (c : UInt8) : ((c.toNat : Int) == 60) = (c == 60) := m8 c 60
theorem m8_62 (c : UInt8) : ((c.toNat : Int) == 62) = (c == 62) := m8 c 62
theorem m8_64 (c : UInt8) : ((c.toNat : Int) == 64) = (c == 64) := m8 c 64
theorem m8_65 (c : UInt8) : ((c.toNat : Int) == 65) = (c == 65) := m8 c 65
theorem m8_67 (c : UInt8) : ((c.toNat : Int) == 67) = (c == 67) := m8 c 67
theorem m8_69 (c : UInt8) : ((c.toNat : Int) == 69) = (c == 69) := m8 c 69
theorem m8_80 (c : UInt8) : ((c.toNat : Int) == 80) = (c == 80) := m8 c 80
theorem m8_90 (c : UInt8) : ((c.toNat : Int) == 90) = (c == 90) := m8 c 90
theorem m8_92 (c : UInt8) : ((c.toNat : Int) == 92) = (c == 92) := m8 c 92
theorem m8_95 (c : UInt8) : ((c.toNat : Int) == 95) = (c == 95) := m8 c 95
theorem m8_97 (c : UInt8) : ((c.toNat : Int) == 97) = (c == 97) := m8 c 97
theorem m8_101 (c : UInt8) : ((c.toNat : Int) == 101) = (c == 101) := m8 c 101
theorem m8_112 (c : UInt8) : ((c.toNat : Int) == 112) = (c == 112) := m8 c 112
theorem m8_122 (c : UInt8) : ((c.toNat : Int) == 122) = (c == 122) := m8 c 122
def ilt (a b : Int) : Bool := decide (a < b)
def ile (a b : Int) : Bool := decide (a ≤ b)
theorem nltB {a b : Int} {inst : Decidable (a < b)} : @decide (a < b) inst = ilt a b := by unfold ilt; congr
theorem nleB {a b : Int} {inst : Decidable (a ≤ b)} : @decide (a ≤ b) inst = ile a b := by unfold ile; congr
theorem neqB {α : Type} [DecidableEq α] {a b : α} {inst : Decidable (a = b)} : @decide (a = b) inst = (a == b) := by
  rw [Bool.eq_iff_iff, decide_eq_true_iff, beq_iff_eq]
theorem ltT {a b : Int} (h : a < b) : ilt a b = true := decide_eq_true h
theorem ltF {a b : Int} (h : b ≤ a) : ilt a b = false := decide_eq_false (by omega)
theorem leT {a b : Int} (h : a ≤ b) : ile a b = true := decide_eq_true h
theorem leF {a b : Int} (h : b < a) : ile a b = false := decide_eq_false (by omega)
theorem eqT {α : Type} [DecidableEq α] {a b : α} (h : a = b) : (a == b) = true := beq_iff_eq.2 h
theorem eqF {α : Type} [DecidableEq α] {a b : α} (h : a ≠ b) : (a == b) = false := beq_eq_false_iff_ne.2 h
theorem drop_cases {α : Type} (s : List α) (j : Nat) : (s.drop j = [] ∧ s.length ≤ j) ∨ ∃ c, j < s.length ∧ s.drop j = c :: s.drop (j + 1) ∧ s[j]? = some c := by
  by_cases h : j < s.length
  · exact .inr ⟨s[j], h, List.drop_eq_getElem_cons h, List.getElem?_eq_getElem h⟩
  · exact .inl ⟨List.drop_eq_nil_of_le (by omega), by omega⟩
theorem getD_drop (s : List UInt8) (i n : Nat) : (s.drop i)[n]?.getD 0 = (s.drop (i + n)).headD 0 := by
  rw [List.getElem?_drop]
  rcases drop_cases s (i + n) with ⟨h1, h2⟩ | ⟨c, h1, h2, h3⟩
  · rw [List.getElem?_eq_none h2, h1]; rfl
  · rw [h3, h2]; rfl
theorem ix_of {α : Type} {l : List α} {n : Int} {k : Nat} {x : α} (h : l[k]? = some x) (e : n = (k : Int)) : ix l n = some x := by rw [e, ix_nat]; exact h
theorem chkT {α : Type} {p : Prop} {inst : Decidable p} {k : Option α} (h : p) : @chk α p inst k = k := if_pos h
theorem andB {c : Bool} {k : Option Bool} : andO c k = cond c k (some false) := by cases c <;> rfl
theorem orB {c : Bool} {k : Option Bool} : orO c k = cond c (some true) k := by cases c <;> rfl
theorem condAnd {c d : Bool} : cond c (some d) (some false) = some (c && d) := by cases c <;> rfl
theorem condOr {c d : Bool} : cond c (some true) (some d) = some (c || d) := by cases c <;> rfl
/-- a check, with no instance that hangs on it -/
noncomputable def pchk {α : Type} (p : Prop) (k : Option α) : Option α := @ite _ p (Classical.propDecidable p) k none
theorem chkB {α : Type} {p : Prop} {inst : Decidable p} {k : Option α} : @chk α p inst k = pchk p k := by unfold chk pchk; congr
theorem pk {α : Type} {p : Prop} {k : Option α} (h : p) : pchk p k = k := if_pos h
end Go.Sh
