/-
  Part of the proof of If.
-/
import Derived.Test.YtgmpeddopfnioaaGreatDoorQiShx
import Derived.Test.YtgmpeddopfnioaaGreatDoorQiSox

set_option linter.unusedVariables false
namespace Go.Sh
theorem loopS_ix {σ ρ : Type} {f : σ → Option (Step σ ρ)} (n : Nat) (hn : n ≤ 9223372036854775807) (I : Nat → σ → Prop) (R : ρ → Prop) {s0 : σ} (h0 : I 0 s0)
    (step : ∀ k s, k < n → I k s → (∃ s', f s = some (.next s') ∧ I (k + 1) s') ∨ ∃ r, f s = some (.done r) ∧ R r)
    (last : ∀ s, I n s → ∃ r, f s = some (.done r) ∧ R r) : ∃ r, loopS f s0 = some r ∧ R r := by
  have key : ∀ (m k : Nat) (s : σ), n - k < m → k ≤ n → I k s → ∃ r, iterS f m s = some r ∧ R r := by
    intro m
    induction m with
    | zero => intro k s h; exact absurd h (Nat.not_lt_zero _)
    | succ m ih =>
      intro k s hm hk hi
      unfold iterS
      by_cases hlt : k < n
      · rcases step k s hlt hi with ⟨s', h1, h2⟩ | ⟨r, h1, h2⟩
        · rw [h1]; exact ih (k + 1) s' (by omega) (by omega) h2
        · rw [h1]; exact ⟨r, rfl, h2⟩
      · obtain rfl : k = n := by omega
        obtain ⟨r, h1, h2⟩ := last s hi
        rw [h1]; exact ⟨r, rfl, h2⟩
  exact key _ 0 s0 (by omega) (Nat.zero_le _) h0
theorem foldS_rel {σ ρ α : Type} {f : σ → α → Option (Step σ ρ)} {l : List α} (I : Nat → σ → Prop) {s0 : σ} (h0 : I 0 s0)
  (step : ∀ k s x, l[k]? = some x → I k s → ∃ s', f s x = some (.next s') ∧ I (k + 1) s') : ∃ s, foldS f l s0 = some (.inl s) ∧ I l.length s := by
 have key : ∀ (r : List α) (k : Nat) (s : σ), l.drop k = r → k ≤ l.length → I k s → ∃ s', foldS f r s = some (.inl s') ∧ I l.length s' := by
  intro r
  induction r with
  | nil =>
   intro k s hd hk hi
   have := List.drop_eq_nil_iff.1 hd
   obtain rfl : k = l.length := by omega
   exact ⟨s, rfl, hi⟩
  | cons x r ih =>
   intro k s hd hk hi
   have hx : l[k]? = some x := by
    have h1 : (l.drop k)[0]? = some x := by rw [hd]; rfl
    simpa using h1
   have hlt := (List.getElem?_eq_some_iff.1 hx).1
   obtain ⟨s', h1, h2⟩ := step k s x hx hi
   rw [foldS_next h1]
   refine ih (k + 1) s' ?_ (by omega) h2
   rw [← List.drop_drop, hd]; rfl
 exact key l 0 s0 rfl (Nat.zero_le _) h0
theorem bind_of {α β : Type} {x : Option α} {a : α} {k : α → Option β} (h : x = some a) : x.bind k = k a := by rw [h]; rfl
theorem ite_t {α : Type} {b : Bool} {x y : α} (h : b = true) : (if b = true then x else y) = x := if_pos h
theorem ite_f {α : Type} {b : Bool} {x y : α} (h : b = false) : (if b = true then x else y) = y := by rw [h]; rfl
theorem ix_at {α : Type} {l : List α} {k : Nat} (h : k < l.length) : ix l (k : Int) = some l[k] := by rw [ix_nat]; exact List.getElem?_eq_getElem h
end Go.Sh
set_option linter.unusedVariables false
set_option linter.unusedSimpArgs false
namespace Go.Sh
open Go
theorem iteB {α : Type} {b : Bool} {inst : Decidable (b = true)} {x y : α} : @ite α (b = true) inst x y = cond b x y := by cases b <;> simp
theorem iteT {α : Type} {b : Bool} {x y : α} (h : b = true) : cond b x y = x := by rw [h]; rfl
theorem iteF {α : Type} {b : Bool} {x y : α} (h : b = false) : cond b x y = y := by rw [h]; rfl
theorem u8i (c d : UInt8) : ((c.toNat : Int) = (d.toNat : Int)) ↔ c = d := by rw [Int.natCast_inj, UInt8.toNat_inj]
theorem m8 (c d : UInt8) : ((c.toNat : Int) == (d.toNat : Int)) = (c == d) := by
 rw [Bool.eq_iff_iff, beq_iff_eq, u8i, beq_iff_eq]
theorem m8_9 (c : UInt8) : ((c.toNat : Int) == 9) = (c == 9) := m8 c 9
theorem m8_10 (c : UInt8) : ((c.toNat : Int) == 10) = (c == 10) := m8 c 10
theorem m8_11 (c : UInt8) : ((c.toNat : Int) == 11) = (c == 11) := m8 c 11
theorem m8_12 (c : UInt8) : ((c.toNat : Int) == 12) = (c == 12) := m8 c 12
theorem m8_13 (c : UInt8) : ((c.toNat : Int) == 13) = (c == 13) := m8 c 13
theorem m8_32 (c : UInt8) : ((c.toNat : Int) == 32) = (c == 32) := m8 c 32
theorem m8_34 (c : UInt8) : ((c.toNat : Int) == 34) = (c == 34) := m8 c 34
theorem m8_35 (c : UInt8) : ((c.toNat : Int) == 35) = (c == 35) := m8 c 35
theorem m8_39 (c : UInt8) : ((c.toNat : Int) == 39) = (c == 39) := m8 c 39
theorem m8_40 (c : UInt8) : ((c.toNat : Int) == 40) = (c == 40) := m8 c 40
theorem m8_41 (c : UInt8) : ((c.toNat : Int) == 41) = (c == 41) := m8 c 41
theorem m8_42 (c : UInt8) : ((c.toNat : Int) == 42) = (c == 42) := m8 c 42
theorem m8_43 (c : UInt8) : ((c.toNat : Int) == 43) = (c == 43) := m8 c 43
theorem m8_44 (c : UInt8) : ((c.toNat : Int) == 44) = (c == 44) := m8 c 44
theorem m8_45 (c : UInt8) : ((c.toNat : Int) == 45) = (c == 45) := m8 c 45
theorem m8_46 (c : UInt8) : ((c.toNat : Int) == 46) = (c == 46) := m8 c 46
theorem m8_47 (c : UInt8) : ((c.toNat : Int) == 47) = (c == 47) := m8 c 47
theorem m8_48 (c : UInt8) : ((c.toNat : Int) == 48) = (c == 48) := m8 c 48
theorem m8_60 (c : UInt8) : ((c.toNat : Int) == 60) = (c == 60) := m8 c 60
theorem m8_62 (c : UInt8) : ((c.toNat : Int) == 62) = (c == 62) := m8 c 62
theorem m8_64 (c : UInt8) : ((c.toNat : Int) == 64) = (c == 64) := m8 c 64
theorem m8_65 (c : UInt8) : ((c.toNat : Int) == 65) = (c == 65) := m8 c 65
theorem m8_67 (c : UInt8) : ((c.toNat : Int) == 67) = (c == 67) := m8 c 67
theorem m8_69 (c : UInt8) : ((c.toNat : Int) == 69) = (c == 69) := m8 c 69
theorem m8_80 (c : UInt8) : ((c.toNat : Int) == 80) = (c == 80) := m8 c 80
theorem m8_90 (c : UInt8) : ((c.toNat : Int) == 90) = (c == 90) := m8 c 90
theorem m8_92 (c : UInt8) : ((c.toNat : Int) == 92) = (c == 92) := m8 c 92
theorem m8_95 (c : UInt8) : ((c.toNat : Int) == 95) = (c == 95) := m8 c 95
theorem m8_97 (c : UInt8) : ((c.toNat : Int) == 97) = (c == 97) := m8 c 97
theorem m8_101 (c : UInt8) : ((c.toNat : Int) == 101) = (c == 101) := m8 c 101
theorem m8_112 (c : UInt8) : ((c.toNat : Int) == 112) = (c == 112) := m8 c 112
theorem m8_122 (c : UInt8) : ((c.toNat : Int) == 122) = (c == 122) := m8 c 122
def ilt (a b : Int) : Bool := decide (a < b)
def ile (a b : Int) : Bool := decide (a ≤ b)
theorem nltB {a b : Int} {inst : Decidable (a < b)} : @decide (a < b) inst = ilt a b := by unfold ilt; congr
theorem nleB {a b : Int} {inst : Decidable (a ≤ b)} : @decide (a ≤ b) inst = ile a b := by unfold ile; congr
theorem neqB {α : Type} [DecidableEq α] {a b : α} {inst : Decidable (a = b)} : @decide (a = b) inst = (a == b) := by
 rw [Bool.eq_iff_iff, decide_eq_true_iff, beq_iff_eq]
theorem ltT {a b : Int} (h : a < b) : ilt a b = true := decide_eq_true h
theorem ltF {a b : Int} (h : b ≤ a) : ilt a b = false := decide_eq_false (by omega)
theorem leT {a b : Int} (h : a ≤ b) : ile a b = true := decide_eq_true h
theorem leF {a b : Int} (h : b < a) : ile a b = false := decide_eq_false (by omega)
theorem eqT {α : Type} [DecidableEq α] {a b : α} (h : a = b) : (a == b) = true := beq_iff_eq.2 h
theorem eqF {α : Type} [DecidableEq α] {a b : α} (h : a ≠ b) : (a == b) = false := beq_eq_false_iff_ne.2 h
theorem drop_cases {α : Type} (s : List α) (j : Nat) : (s.drop j = [] ∧ s.length ≤ j) ∨ ∃ c, j < s.length ∧ s.drop j = c :: s.drop (j + 1) ∧ s[j]? = some c := by
 by_cases h : j < s.length
 ·exact .inr ⟨s[j], h, List.drop_eq_getElem_cons h, List.getElem?_eq_getElem h⟩
 ·exact .inl ⟨List.drop_eq_nil_of_le (by omega), by omega⟩
theorem getD_drop (s : List UInt8) (i n : Nat) : (s.drop i)[n]?.getD 0 = (s.drop (i + n)).headD 0 := by
 rw [List.getElem?_drop]
 rcases drop_cases s (i + n) with ⟨h1, h2⟩ | ⟨c, h1, h2, h3⟩
 ·rw [List.getElem?_eq_none h2, h1]; rfl
 ·rw [h3, h2]; rfl
theorem ix_of {α : Type} {l : List α} {n : Int} {k : Nat} {x : α} (h : l[k]? = some x) (e : n = (k : Int)) : ix l n = some x := by rw [e, ix_nat]; exact h
theorem chkT {α : Type} {p : Prop} {inst : Decidable p} {k : Option α} (h : p) : @chk α p inst k = k := if_pos h
theorem andB {c : Bool} {k : Option Bool} : andO c k = cond c k (some false) := by cases c <;> rfl
theorem orB {c : Bool} {k : Option Bool} : orO c k = cond c (some true) k := by cases c <;> rfl
theorem condAnd {c d : Bool} : cond c (some d) (some false) = some (c && d) := by cases c <;> rfl
theorem condOr {c d : Bool} : cond c (some true) (some d) = some (c || d) := by cases c <;> rfl
noncomputable def pchk {α : Type} (p : Prop) (k : Option α) : Option α := @ite _ p (Classical.propDecidable p) k none
theorem chkB {α : Type} {p : Prop} {inst : Decidable p} {k : Option α} : @chk α p inst k = pchk p k := by unfold chk pchk; congr
theorem pk {α : Type} {p : Prop} {k : Option α} (h : p) : pchk p k = k := if_pos h
end Go.Sh
set_option linter.unusedVariables false
set_option linter.unusedSimpArgs false
namespace Go.Sh
open Go
theorem charsAt_len : ∀ (s : List UInt8) (i : Nat), (charsAt i s).length ≤ s.length
  | [], i => by simp [charsAt]
  | [c], i => by simp [charsAt]
  | c :: d :: r, i => by
    unfold charsAt; split
    · have := charsAt_len r (i + 2); simp only [List.length_cons]; omega
    · have := charsAt_len (d :: r) (i + 1); simp only [List.length_cons] at *; omega
theorem spliceJoin_eq (t : List UInt8) (h : t.length ≤ 2000000) : splice_Join t = some (charsAt 0 t) := by
 have hl := charsAt_len t 0
 unfold splice_Join
 have hc : chars t = some (charsAt 0 t) := by unfold chars; rw [if_pos (by omega)]
 rw [bind_of hc]
 obtain ⟨s, h1, rfl⟩ := foldS_rel (f := splice_Join_b1) (l := charsAt 0 t) (fun k s => s = (charsAt 0 t).take k) (s0 := ([] : List GChar)) rfl (by
  rintro k s x hx rfl
  have hlt := (List.getElem?_eq_some_iff.1 hx).1
  refine ⟨(charsAt 0 t).take k ++ [x], ?_, ?_⟩
  ·unfold splice_Join_b1
   rw [chk_of (by rw [List.length_take]; omega)]
  ·rw [List.take_add_one, hx]; rfl)
 rw [bind_of h1]
 simp [splice_Join_k2]
theorem spliceText_eq (l : List GChar) (h : l.length ≤ 2000000) : splice_Text l = some (l.map GChar.b) := by
 unfold splice_Text
 rw [chk_of (by omega)]
 obtain ⟨r, h1, rfl⟩ := loopS_ix (f := splice_Text_b2 l) l.length (by omega) (fun k s => s.1 = k ∧ s.2 = (l.map GChar.b).take k ++ List.replicate (l.length - k) 0) (fun r => r = l.map GChar.b) (s0 := ((0 : Int), List.replicate ((l.length : Int)).toNat (0 : UInt8))) ⟨rfl, by simp⟩ (by
  rintro k ⟨i, b⟩ hk ⟨h1, h2⟩
  simp only at h1 h2; subst h1; subst h2
  left
  have hb : ((l.map GChar.b).take k ++ List.replicate (l.length - k) 0)[k]? = some 0 := by
   have e1 : ((l.map GChar.b).take k).length = k := by simp; omega
   rw [List.getElem?_append_right (by omega), e1, Nat.sub_self, List.getElem?_replicate, if_pos (by omega)]
  refine ⟨((k : Int) + 1, ((l.map GChar.b).take k ++ List.replicate (l.length - k) 0).set (k : Int).toNat l[k].b), ?_, rfl, ?_⟩
  ·unfold splice_Text_b2
   simp only
   rw [ite_t (by simpa using hk), bind_of (ix_at hk), ix_nat, bind_of hb, chk_of (by omega)]
  ·simp only [Int.toNat_natCast]
   have e1 : ((l.map GChar.b).take k).length = k := by simp; omega
   obtain ⟨m, hm⟩ : ∃ m, l.length - k = m + 1 := ⟨l.length - k - 1, by omega⟩
   rw [List.set_append_right _ _ (by omega), e1, Nat.sub_self, hm, show l.length - (k + 1) = m by omega, List.take_add_one, List.getElem?_map, List.getElem?_eq_getElem hk]
   simp [List.replicate_succ]) (by
  rintro ⟨i, b⟩ ⟨h1, h2⟩
  simp only at h1 h2; subst h1; subst h2
  refine ⟨_, ?_, rfl⟩
  unfold splice_Text_b2
  simp only
  rw [ite_f (by simp), Nat.sub_self, List.take_of_length_le (by simp)]
  simp)
 rw [bind_of h1]; rfl
end Go.Sh
set_option linter.unusedVariables false
set_option linter.unusedSimpArgs false
namespace Go.Sh
open Go
def isLetter (c : UInt8) : Bool := decide ((c.toNat : Int) = 95) || (decide ((97 : Int) ≤ c.toNat) && decide ((c.toNat : Int) ≤ 122)) || (decide ((65 : Int) ≤ c.toNat) && decide ((c.toNat : Int) ≤ 90))
def isDigit (c : UInt8) : Bool := decide ((48 : Int) ≤ c.toNat) && decide ((c.toNat : Int) ≤ 57)
def isExp (c : UInt8) : Bool := c == 101 || c == 69 || c == 112 || c == 80
def isPM (c : UInt8) : Bool := c == 43 || c == 45
def isWS (c : UInt8) : Bool := c == 32 || c == 9 || c == 11 || c == 12 || c == 13
def wordTail : List UInt8 → Nat
 | [] => 0
 | c :: r => if (isLetter c || isDigit c) = true then 1 + wordTail r else 0
def wordLen : List UInt8 → Nat
 | [] => 0
 | c :: r => if isLetter c = true then 1 + wordTail r else 0
def numCh (c : UInt8) : Bool := isLetter c || isDigit c || c == 46
def numTail : List UInt8 → Nat
 | [] => 0
 | [c] => if numCh c = true then 1 else 0
 | c :: d :: r => if (isExp c && isPM d) = true then 2 + numTail r else if numCh c = true then 1 + numTail (d :: r) else 0
def numLen : List UInt8 → Nat
 | [] => 0
 | c :: r => if (isDigit c || (c == 46 && isDigit (r.headD 0))) = true then 1 + numTail r else 0
def quoTail (q : UInt8) : List UInt8 → Option Nat
 | [] => none
 | [c] => if c = q then some 1 else none
 | c :: d :: r => if c = q then some 1 else if c = 10 then none else if c = 92 then (if d = 10 then none else (quoTail q r).map (· + 2)) else (quoTail q (d :: r)).map (· + 1)
def quoLen (q : UInt8) : List UInt8 → Nat
 | [] => 0
 | c :: r => if c = q then (if q = 39 ∧ r.head? = some q then 0 else match quoTail q r with | none => 0 | some n => n + 1) else 0
def three : List (List UInt8) := [[46, 46, 46], [60, 60, 61], [62, 62, 61]]
def two : List (List UInt8) := [[45, 62], [43, 43], [45, 45], [60, 60], [62, 62], [60, 61], [62, 61], [61, 61], [33, 61], [38, 38], [124, 124], [42, 61], [47, 61], [37, 61], [43, 61], [45, 61], [38, 61], [94, 61], [124, 61], [35, 35]]
def ones : List UInt8 := [91, 93, 40, 41, 123, 125, 46, 38, 42, 43, 45, 126, 33, 47, 37, 60, 62, 94, 124, 63, 58, 59, 61, 44, 35]
def signLen (u : List UInt8) : Nat := if three.any (fun p => p.isPrefixOf u) = true then 3 else if two.any (fun p => p.isPrefixOf u) = true then 2 else if ones.any (fun c => u.head? == some c) = true then 1 else 0
def nextTok (u : List UInt8) : Int × Nat :=
 if u.head? = some 10 then (7, 1) else if 0 < wordLen u then (1, wordLen u) else if 0 < numLen u then (2, numLen u) else if 0 < quoLen 34 u then (4, quoLen 34 u) else if 0 < quoLen 39 u then (3, quoLen 39 u) else if 0 < signLen u then (5, signLen u) else (6, 1)
def lineLen : List UInt8 → Nat
 | [] => 0
 | c :: r => if c = 10 then 0 else 1 + lineLen r
def blockLen : List UInt8 → Option Nat
 | [] => none
 | [_] => none
 | c :: d :: r => if c = 42 ∧ d = 47 then some 2 else (blockLen (d :: r)).map (· + 1)
def blankLen : List UInt8 → Nat
 | [] => 0
 | c :: r => if isWS c = true then 1 else if c = 47 ∧ r.head? = some 47 then 1 + lineLen r else if c = 47 ∧ r.head? = some 42 then (match blockLen (r.drop 1) with | none => 0 | some n => n + 2) else 0
theorem wordTail_le : ∀ u : List UInt8, wordTail u ≤ u.length
  | [] => Nat.le_refl _
  | c :: r => by have := wordTail_le r; simp only [wordTail]; split <;> simp only [List.length_cons] <;> omega
theorem wordLen_le (u : List UInt8) : wordLen u ≤ u.length := by
  cases u with
  | nil => exact Nat.le_refl _
  | cons c r => have := wordTail_le r; simp only [wordLen]; split <;> simp only [List.length_cons] <;> omega
theorem numTail_le : ∀ u : List UInt8, numTail u ≤ u.length
  | [] => Nat.le_refl _
  | [c] => by simp only [numTail]; split <;> simp
  | c :: d :: r => by
    have h1 := numTail_le r
    have h2 := numTail_le (d :: r)
    simp only [List.length_cons] at h2
    simp only [numTail]; split
    · simp only [List.length_cons]; omega
    · split <;> simp only [List.length_cons] <;> omega
theorem numLen_le (u : List UInt8) : numLen u ≤ u.length := by
  cases u with
  | nil => exact Nat.le_refl _
  | cons c r => have := numTail_le r; simp only [numLen]; split <;> simp only [List.length_cons] <;> omega
theorem quoTail_le (q : UInt8) : ∀ (u : List UInt8) (n : Nat), quoTail q u = some n → 1 ≤ n ∧ n ≤ u.length
  | [], n, h => by simp [quoTail] at h
  | [c], n, h => by
    simp only [quoTail] at h; split at h
    · injection h with h; subst h; simp
    · cases h
  | c :: d :: r, n, h => by
    simp only [quoTail] at h
    split at h
    · injection h with h; subst h; simp
    split at h
    · cases h
    split at h
    · split at h
      · cases h
      · obtain ⟨m, h1, rfl⟩ := Option.map_eq_some_iff.1 h
        have := quoTail_le q r m h1
        simp only [List.length_cons]; omega
    · obtain ⟨m, h1, rfl⟩ := Option.map_eq_some_iff.1 h
      have := quoTail_le q (d :: r) m h1
      simp only [List.length_cons] at *; omega
theorem quoLen_le (q : UInt8) (u : List UInt8) : quoLen q u ≤ u.length := by
  cases u with
  | nil => exact Nat.le_refl _
  | cons c r =>
    simp only [quoLen]; split
    · split
      · exact Nat.zero_le _
      · cases h : quoTail q r with
        | none => exact Nat.zero_le _
        | some n => have := quoTail_le q r n h; simp only [List.length_cons]; omega
    · exact Nat.zero_le _
theorem isPrefix_len {p u : List UInt8} (h : p.isPrefixOf u = true) : p.length ≤ u.length := (List.isPrefixOf_iff_prefix.1 h).length_le
theorem signLen_le (u : List UInt8) : signLen u ≤ u.length := by
 unfold signLen
 split
 ·rename_i h
  obtain ⟨p, hp, h⟩ := List.any_eq_true.1 h
  have := isPrefix_len h
  simp only [three, List.mem_cons, List.not_mem_nil, or_false] at hp
  rcases hp with rfl | rfl | rfl <;> exact this
 split
 ·rename_i h
  obtain ⟨p, hp, h⟩ := List.any_eq_true.1 h
  have := isPrefix_len h
  have h2 : ∀ p ∈ two, p.length = 2 := by decide
  rw [h2 p hp] at this; exact this
 split
 ·rename_i h
  obtain ⟨p, hp, h⟩ := List.any_eq_true.1 h
  cases u with
  | nil => simp at h
  | cons c r => simp
 ·exact Nat.zero_le _
theorem nextTok_pos (u : List UInt8) : 1 ≤ (nextTok u).2 := by
 unfold nextTok
 split
 ·exact Nat.le_refl _
 repeat (split; assumption)
 exact Nat.le_refl _
theorem nextTok_le (u : List UInt8) (h : u ≠ []) : (nextTok u).2 ≤ u.length := by
 have hl : 1 ≤ u.length := List.length_pos_iff.2 h
 unfold nextTok
 split
 ·exact hl
 split
 ·exact wordLen_le u
 split
 ·exact numLen_le u
 split
 ·exact quoLen_le 34 u
 split
 ·exact quoLen_le 39 u
 split
 ·exact signLen_le u
 ·exact hl
theorem lineLen_le : ∀ u : List UInt8, lineLen u ≤ u.length
  | [] => Nat.le_refl _
  | c :: r => by have := lineLen_le r; simp only [lineLen]; split <;> simp only [List.length_cons] <;> omega
theorem blockLen_le : ∀ (u : List UInt8) (n : Nat), blockLen u = some n → 2 ≤ n ∧ n ≤ u.length
 | [], n, h => by simp [blockLen] at h
 | [c], n, h => by simp [blockLen] at h
 | c :: d :: r, n, h => by
  simp only [blockLen] at h
  split at h
  ·injection h with h; subst h; simp
  ·obtain ⟨m, h1, rfl⟩ := Option.map_eq_some_iff.1 h
   have := blockLen_le (d :: r) m h1
   simp only [List.length_cons] at *; omega
theorem blankLen_le (u : List UInt8) : blankLen u ≤ u.length := by
  cases u with
  | nil => exact Nat.le_refl _
  | cons c r =>
    simp only [blankLen]; split
    · simp
    split
    · have := lineLen_le r; simp only [List.length_cons]; omega
    split
    · rename_i h
      cases hb : blockLen (r.drop 1) with
      | none => exact Nat.zero_le _
      | some n =>
        have := blockLen_le _ n hb
        have h2 : 1 ≤ r.length := by
          cases r with
          | nil => simp at h
          | cons _ _ => simp
        simp only [List.length_drop] at this
        simp only [List.length_cons]; omega
    · exact Nat.zero_le _
structure PT where
 kind : Int
 text : List UInt8
 i : Nat
 j : Nat
 blank : Bool
def toks (i : Nat) (b : Bool) (u : List UInt8) : List PT :=
 if h : u = [] then [] else
 if hb : 0 < blankLen u then toks (i + blankLen u) true (u.drop (blankLen u))
 else ⟨(nextTok u).1, u.take (nextTok u).2, i, i + (nextTok u).2, b⟩ :: toks (i + (nextTok u).2) false (u.drop (nextTok u).2)
termination_by u.length
decreasing_by
  · have := List.length_pos_iff.2 h; simp only [List.length_drop]; omega
  · have := List.length_pos_iff.2 h; have := nextTok_pos u; simp only [List.length_drop]; omega
theorem toks_nil (i : Nat) (b : Bool) : toks i b [] = [] := by rw [toks]; simp
theorem toks_blank {i : Nat} {b : Bool} {u : List UInt8} (h : 0 < blankLen u) : toks i b u = toks (i + blankLen u) true (u.drop (blankLen u)) := by
 have : u ≠ [] := fun e => by subst e; simp [blankLen] at h
 rw [toks, dif_neg this, dif_pos h]
theorem toks_tok {i : Nat} {b : Bool} {u : List UInt8} (hu : u ≠ []) (h : blankLen u = 0) : toks i b u = ⟨(nextTok u).1, u.take (nextTok u).2, i, i + (nextTok u).2, b⟩ :: toks (i + (nextTok u).2) false (u.drop (nextTok u).2) := by
 rw [toks, dif_neg hu, dif_neg (by omega)]
theorem letter_eq (c : UInt8) : pptok_letter c = some (isLetter c) := by
 unfold pptok_letter isLetter; simp only [orO_some, andO_some, Option.bind_some]
theorem digit_eq (c : UInt8) : pptok_digit c = some (isDigit c) := by
 unfold pptok_digit isDigit; simp only [orO_some, andO_some, Option.bind_some]
theorem byte_eq (s : List UInt8) (i n : Nat) (h : i + n ≤ 4000000) : pptok_reader_byte ⟨s, i⟩ n = some ((s.drop (i + n)).headD 0) := by
 unfold pptok_reader_byte
 simp only [iteB, neqB, nltB, nleB, m8_9, m8_10, m8_11, m8_12, m8_13, m8_32, m8_34, m8_35, m8_39, m8_40, m8_41, m8_42, m8_43, m8_44, m8_45, m8_46, m8_47, m8_48, m8_60, m8_62, m8_64, m8_65, m8_67, m8_69, m8_80, m8_90, m8_92, m8_95, m8_97, m8_101, m8_112, m8_122, m8, orO_some, andO_some, Option.bind_some, getD_drop]
 rw [chkT (by omega)]
 rcases drop_cases s (i + n) with ⟨h1, h2⟩ | ⟨c, h1, h2, h3⟩
 ·rw [iteT (leT (by omega)), h1]; rfl
 ·rw [iteF (leF (by omega)), chkT (by omega), ix_of h3 (by omega), h2]; rfl
theorem has_eq (s p : List UInt8) (i : Nat) (h : i ≤ s.length) : pptok_reader_has ⟨s, i⟩ p = some (p.isPrefixOf (s.drop i)) := by
 unfold pptok_reader_has
 simp only
 rw [chkT (by omega)]; rfl
theorem letter0 : isLetter 0 = false := by decide
theorem digit0 : isDigit 0 = false := by decide
theorem word_eq (s : List UInt8) (i : Nat) (hi : i ≤ s.length) (hs : s.length ≤ 2000000) : pptok_reader_word ⟨s, i⟩ = some (wordLen (s.drop i) : Int) := by
 unfold pptok_reader_word
 have key := loopS_of (f := pptok_reader_word_b2 ⟨s, i⟩) (fun n => ∃ k : Nat, n = k ∧ i + k ≤ s.length) (fun n => s.length - n.toNat) (fun n => n + ((if n = 0 then wordLen (s.drop i) else wordTail (s.drop (i + n.toNat)) : Nat) : Int)) (s := (0 : Int)) ⟨0, rfl, by omega⟩ (by omega) (by
  rintro n ⟨k, rfl, hk⟩
  unfold pptok_reader_word_b2
  rw [byte_eq s i k (by omega)]
  simp only [iteB, neqB, nltB, nleB, m8_9, m8_10, m8_11, m8_12, m8_13, m8_32, m8_34, m8_35, m8_39, m8_40, m8_41, m8_42, m8_43, m8_44, m8_45, m8_46, m8_47, m8_48, m8_60, m8_62, m8_64, m8_65, m8_67, m8_69, m8_80, m8_90, m8_92, m8_95, m8_97, m8_101, m8_112, m8_122, m8, orO_some, andO_some, Option.bind_some, getD_drop, letter_eq, digit_eq, Int.toNat_natCast]
  rcases drop_cases s (i + k) with ⟨h1, h2⟩ | ⟨c, h1, h2, h3⟩
  ·right
   simp only [h1, List.headD_nil, letter0, digit0, Bool.and_false, Bool.or_false, cond_false]
   congr 2
   by_cases hk0 : k = 0
   ·subst hk0
    rw [Nat.add_zero] at h1
    simp [h1, wordLen]
   ·rw [if_neg (by omega)]; simp [wordTail]
  ·rw [h2]
   simp only [List.headD_cons]
   by_cases hk0 : k = 0
   ·subst hk0
    rw [Nat.add_zero] at h2
    simp only [h2, wordLen, show ((0 : Nat) : Int) = 0 from rfl, if_true, show ilt 0 0 = false from rfl, Bool.false_and, Bool.or_false]
    by_cases hc : isLetter c = true
    ·left
     refine ⟨1, ?_, ⟨1, rfl, by omega⟩, by omega, ?_⟩
     ·rw [iteT hc, chkT (by omega)]; rfl
     ·rw [if_pos hc, if_neg (by omega)]
      show (1 : Int) + _ = _
      simp only [Nat.add_zero, Int.toNat_one]; push_cast; omega
    ·right
     rw [iteF (by simpa using hc), if_neg hc]; rfl
   ·have e0 : ilt 0 (k : Int) = true := ltT (by omega)
    have e2 : ¬ ((k : Int) = 0) := by omega
    simp only [e0, Bool.true_and, if_neg e2]
    by_cases hc : (isLetter c || isDigit c) = true
    ·left
     refine ⟨(k : Int) + 1, ?_, ⟨k + 1, rfl, by omega⟩, by omega, ?_⟩
     ·rw [iteT hc, chkT (by omega)]
     ·rw [if_neg (by omega), show ((k : Int) + 1).toNat = k + 1 by omega]
      simp only [wordTail, hc, if_true, Nat.add_assoc]
      push_cast; omega
    ·right
     rw [iteF (by simpa using hc)]
     simp [wordTail, hc])
 simp only [key, Option.bind_some, pptok_reader_word_j1]
 simp
theorem indexExp (c : UInt8) : ile 0 (Lib.indexByte [101, 69, 112, 80] c) = isExp c := by
 unfold isExp ile
 by_cases h1 : c = 101
 ·subst h1; decide
 by_cases h2 : c = 69
 ·subst h2; decide
 by_cases h3 : c = 112
 ·subst h3; decide
 by_cases h4 : c = 80
 ·subst h4; decide
 have e : Lib.indexByte [101, 69, 112, 80] c = -1 := by
  simp only [Lib.indexByte, beq_iff_eq, Ne.symm h1, Ne.symm h2, Ne.symm h3, Ne.symm h4, if_false]
  simp
 rw [e]; simp [h1, h2, h3, h4]
theorem numTail_cons (c : UInt8) (r : List UInt8) : numTail (c :: r) = if (isExp c && isPM (r.headD 0)) = true then 2 + numTail (r.drop 1) else if numCh c = true then 1 + numTail r else 0 := by
 cases r with
 | nil =>
  have : isPM 0 = false := by decide
  simp [numTail, this]
 | cons d r => simp [numTail]
theorem number_eq (s : List UInt8) (i : Nat) (hi : i ≤ s.length) (hs : s.length ≤ 2000000) : pptok_reader_number ⟨s, i⟩ = some (numLen (s.drop i) : Int) := by
  unfold pptok_reader_number
  have b0 := byte_eq s i 0 (by omega)
  have b1 := byte_eq s i 1 (by omega)
  simp only [Nat.add_zero, show ((0 : Nat) : Int) = 0 from rfl, show ((1 : Nat) : Int) = 1 from rfl] at b0 b1
  simp only [b0, b1, digit_eq, iteB, neqB, nltB, nleB, m8_9, m8_10, m8_11, m8_12, m8_13, m8_32, m8_34, m8_35, m8_39, m8_40, m8_41, m8_42, m8_43, m8_44, m8_45, m8_46, m8_47, m8_48, m8_60, m8_62, m8_64, m8_65, m8_67, m8_69, m8_80, m8_90, m8_92, m8_95, m8_97, m8_101, m8_112, m8_122, m8, orO_some, andO_some, Option.bind_some, getD_drop]
  rcases drop_cases s i with ⟨h1, h2⟩ | ⟨c, h1, h2, h3⟩
  · have h4 : s.drop (i + 1) = [] := List.drop_eq_nil_of_le (by omega)
    simp only [h1, h4, List.headD_nil, digit0]; rfl
  rw [h2]
  simp only [List.headD_cons, numLen]
  by_cases hc : (isDigit c || (c == 46 && isDigit ((s.drop (i + 1)).headD 0))) = true
  · have hb : (!isDigit c && (!(c == 46) || !isDigit ((s.drop (i + 1)).headD 0))) = false := by
      rw [← Bool.not_and, ← Bool.not_or, hc]; rfl
    rw [iteF hb, if_pos hc]
    have key := loopS_of (f := pptok_reader_number_b1 ⟨s, i⟩) (fun n => ∃ k : Nat, n = k ∧ i + k ≤ s.length) (fun n => s.length - n.toNat) (fun n => n + ((numTail (s.drop (i + n.toNat)) : Nat) : Int)) (s := (1 : Int)) ⟨1, rfl, by omega⟩ (by omega) (by
      rintro n ⟨k, rfl, hk⟩
      unfold pptok_reader_number_b1
      have e1 : ((k : Int) + 1) = ((k + 1 : Nat) : Int) := rfl
      have e2 : ((k : Int) + 2) = ((k + 2 : Nat) : Int) := rfl
      rw [byte_eq s i k (by omega), Option.bind_some, chkT (by omega), e1, byte_eq s i (k + 1) (by omega), e2]
      simp only [iteB, neqB, nltB, nleB, m8_9, m8_10, m8_11, m8_12, m8_13, m8_32, m8_34, m8_35, m8_39, m8_40, m8_41, m8_42, m8_43, m8_44, m8_45, m8_46, m8_47, m8_48, m8_60, m8_62, m8_64, m8_65, m8_67, m8_69, m8_80, m8_90, m8_92, m8_95, m8_97, m8_101, m8_112, m8_122, m8, orO_some, andO_some, Option.bind_some, getD_drop, letter_eq, digit_eq, indexExp, Int.toNat_natCast]
      rw [← Nat.add_assoc]
      rcases drop_cases s (i + k) with ⟨h1, h2⟩ | ⟨d, h1, h2, h3⟩
      · right
        simp only [h1, List.headD_nil, letter0, digit0, show isExp 0 = false by decide, Bool.false_and, Bool.or_false, Bool.false_or, cond_false, show ((0 : UInt8) == 46) = false by decide, numTail]
        simp
      · simp only [h2, List.headD_cons, numTail_cons]
        have e3 : ((s.drop (i + k + 1)).headD 0 == 43 || (s.drop (i + k + 1)).headD 0 == 45) = isPM ((s.drop (i + k + 1)).headD 0) := rfl
        have e4 : (isLetter d || isDigit d || d == 46) = numCh d := rfl
        rw [e3, e4]
        by_cases h4 : (isExp d && isPM ((s.drop (i + k + 1)).headD 0)) = true
        · left
          have h5 : i + k + 1 < s.length := by
            rcases drop_cases s (i + k + 1) with ⟨g1, g2⟩ | ⟨d, g1, g2, g3⟩
            · rw [g1, show List.headD ([] : List UInt8) 0 = 0 from rfl, show isPM 0 = false by decide, Bool.and_false] at h4; cases h4
            · exact g1
          refine ⟨((k + 2 : Nat) : Int), ?_, ⟨k + 2, rfl, by omega⟩, ?_, ?_⟩
          · rw [iteT h4, chkT (by omega)]
          · omega
          · rw [if_pos h4, List.drop_drop, Int.toNat_natCast, show i + (k + 2) = i + k + 1 + 1 by omega]
            push_cast; omega
        · rw [if_neg h4, iteF (by simpa using h4)]
          by_cases h6 : numCh d = true
          · left
            refine ⟨((k + 1 : Nat) : Int), ?_, ⟨k + 1, rfl, by omega⟩, ?_, ?_⟩
            · rw [iteT h6, chkT (by omega)]
            · omega
            · rw [if_pos h6, Int.toNat_natCast, show i + (k + 1) = i + k + 1 by omega]
              push_cast; omega
          · right
            rw [if_neg h6, iteF (by simpa using h6)]
            simp)
    simp only [key, Option.bind_some, Int.toNat_one]
    push_cast; rfl
  · rw [iteT (by
      rw [← Bool.not_and, ← Bool.not_or, Bool.eq_false_iff.2 hc]; rfl), if_neg hc]; rfl
theorem quoTail_cons (q c : UInt8) (r : List UInt8) : quoTail q (c :: r) = if c = q then some 1 else if c = 10 then none else if c = 92 then (if r = [] ∨ r.head? = some 10 then none else (quoTail q (r.drop 1)).map (· + 2)) else (quoTail q r).map (· + 1) := by
 cases r with
 | nil =>
  simp only [quoTail]
  split
  ·rfl
  ·split
   ·rfl
   ·split <;> simp [quoTail]
 | cons d r => simp [quoTail]
theorem quoted_eq (s : List UInt8) (i : Nat) (q : UInt8) (hi : i ≤ s.length) (hs : s.length ≤ 2000000) : pptok_reader_quoted ⟨s, i⟩ q = some (quoLen q (s.drop i) : Int) := by
  unfold pptok_reader_quoted
  have b0 := byte_eq s i 0 (by omega)
  simp only [Nat.add_zero, show ((0 : Nat) : Int) = 0 from rfl] at b0
  simp only [b0, iteB, neqB, nltB, nleB, m8_9, m8_10, m8_11, m8_12, m8_13, m8_32, m8_34, m8_35, m8_39, m8_40, m8_41, m8_42, m8_43, m8_44, m8_45, m8_46, m8_47, m8_48, m8_60, m8_62, m8_64, m8_65, m8_67, m8_69, m8_80, m8_90, m8_92, m8_95, m8_97, m8_101, m8_112, m8_122, m8, orO_some, andO_some, Option.bind_some, getD_drop]
  rcases drop_cases s i with ⟨h1, h2⟩ | ⟨c, h1, h2, h3⟩
  · rw [iteT (by rw [eqT (by omega)]; rfl), h1]; rfl
  rw [h2]
  simp only [List.headD_cons]
  by_cases hc : c = q
  · rw [iteF (by rw [eqF (by omega), eqT hc]; rfl)]
    obtain ⟨T, hT2⟩ : ∃ T : Nat, T = (if q = 39 ∧ (s.drop (i + 1)).head? = some q then 0 else match quoTail q (s.drop (i + 1)) with | none => 0 | some n => n + 1) := ⟨_, rfl⟩
    have hT : quoLen q (c :: s.drop (i + 1)) = T := by rw [hT2]; simp only [quoLen, if_pos hc]
    rw [hT]
    obtain ⟨r, g1, g2⟩ := loopS_rel (f := pptok_reader_quoted_b2 ⟨s, i⟩ q) (fun n => ∃ k : Nat, n = k ∧ 1 ≤ k ∧ i + k ≤ s.length + 1 ∧ T = (if k = 1 ∧ q = 39 ∧ (s.drop (i + 1)).head? = some q then 0 else match quoTail q (s.drop (i + k)) with | none => 0 | some n => n + k)) (fun n => s.length + 2 - n.toNat) (fun r => (match r with | .inl _ => 0 | .inr n => n) = (T : Int)) (s := (1 : Int)) ⟨1, rfl, Nat.le_refl _, by omega, by rw [hT2]; simp⟩ (by omega) (by
      rintro n ⟨k, rfl, hk, hk2, hv⟩
      unfold pptok_reader_quoted_b2
      have e0 : ((i : Int) + (k : Int)) = ((i + k : Nat) : Int) := rfl
      have e1 : ((k : Int) + 1) = ((k + 1 : Nat) : Int) := rfl
      simp only [e0, e1]
      rw [chkT (by omega), byte_eq s i k (by omega), byte_eq s i (k + 1) (by omega)]
      simp only [iteB, neqB, nltB, nleB, m8_9, m8_10, m8_11, m8_12, m8_13, m8_32, m8_34, m8_35, m8_39, m8_40, m8_41, m8_42, m8_43, m8_44, m8_45, m8_46, m8_47, m8_48, m8_60, m8_62, m8_64, m8_65, m8_67, m8_69, m8_80, m8_90, m8_92, m8_95, m8_97, m8_101, m8_112, m8_122, m8, orO_some, andO_some, Option.bind_some, getD_drop]
      rcases drop_cases s (i + k) with ⟨h1, h2⟩ | ⟨d, h1, h2, h3⟩
      · right
        refine ⟨_, iteF (ltF (by omega)), ?_⟩
        rw [hv, h1, if_neg]
        · simp [quoTail]
        · rintro ⟨rfl, _, h4⟩; rw [h1] at h4; cases h4
      rw [iteT (ltT (by omega)), h2]
      simp only [List.headD_cons]
      rw [h2, quoTail_cons q d] at hv
      by_cases hd : d = q
      · right
        rw [iteT (eqT hd)]
        by_cases h4 : q = 39 ∧ k = 1
        · refine ⟨_, iteT (by rw [eqT h4.1, eqT (by omega)]; rfl), ?_⟩
          obtain ⟨h4, rfl⟩ := h4
          rw [hv, if_pos ⟨rfl, h4, by rw [h2, hd]; rfl⟩]; rfl
        · refine ⟨.inr ((k + 1 : Nat) : Int), ?_, ?_⟩
          · rw [iteF (by
              rcases Decidable.not_and_iff_or_not.1 h4 with h4 | h4
              · rw [eqF h4]; rfl
              · rw [eqF (a := (k : Int)) (by omega), Bool.and_false]), chkT (by omega)]
          · rw [hv, if_neg (fun h5 => h4 ⟨h5.2.1, h5.1⟩), if_pos hd]
            simp only; omega
      rw [iteF (eqF hd)]
      have hne : ¬ (k = 1 ∧ q = 39 ∧ (s.drop (i + 1)).head? = some q) := by
        rintro ⟨rfl, _, h5⟩
        rw [h2] at h5
        injection h5 with h5; exact hd h5
      rw [if_neg hne, if_neg hd] at hv
      by_cases hd10 : d = 10
      · right
        refine ⟨_, iteT (eqT hd10), ?_⟩
        rw [hv, if_pos hd10]; rfl
      rw [iteF (eqF hd10)]
      rw [if_neg hd10] at hv
      by_cases hd92 : d = 92
      · rw [iteT (eqT hd92), chkT (by omega)]
        rw [if_pos hd92] at hv
        have e3 : ((i : Int) + ((k + 1 : Nat) : Int)) = ((i + k + 1 : Nat) : Int) := by push_cast; omega
        have e4 : ((k + 1 : Nat) : Int) + 1 = ((k + 2 : Nat) : Int) := rfl
        simp only [e3, e4, ← Nat.add_assoc]
        rw [chkT (by omega)]
        simp only [iteB, neqB, nltB, nleB, m8_9, m8_10, m8_11, m8_12, m8_13, m8_32, m8_34, m8_35, m8_39, m8_40, m8_41, m8_42, m8_43, m8_44, m8_45, m8_46, m8_47, m8_48, m8_60, m8_62, m8_64, m8_65, m8_67, m8_69, m8_80, m8_90, m8_92, m8_95, m8_97, m8_101, m8_112, m8_122, m8, orO_some, andO_some, Option.bind_some, getD_drop]
        rcases drop_cases s (i + k + 1) with ⟨f1, f2⟩ | ⟨x, f1, f2, f3⟩
        · left
          refine ⟨((k + 2 : Nat) : Int), ?_, ⟨k + 2, by omega, by omega, by omega, ?_⟩, by omega⟩
          · rw [iteF (by rw [ltF (by omega), Bool.and_false]), chkT (by omega)]
          · rw [hv, f1, if_pos (.inl rfl), if_neg (by omega), List.drop_eq_nil_of_le (by omega)]; simp [quoTail]
        · rw [f2]
          simp only [List.headD_cons]
          rw [f2] at hv
          by_cases hx : x = 10
          · right
            refine ⟨_, iteT (by rw [eqT hx, ltT (by omega)]; rfl), ?_⟩
            rw [hv, if_pos (.inr (by rw [hx]; rfl))]; rfl
          · left
            refine ⟨((k + 2 : Nat) : Int), ?_, ⟨k + 2, by omega, by omega, by omega, ?_⟩, by omega⟩
            · rw [iteF (by rw [eqF hx, Bool.false_and]), chkT (by omega)]
            · rw [hv, if_neg (by simp [hx]), if_neg (by omega), show i + (k + 2) = i + k + 1 + 1 by omega]
              simp only [List.drop_succ_cons, List.drop_zero]
              cases quoTail q (s.drop (i + k + 1 + 1)) with
              | none => rfl
              | some m => show m + 2 + k = m + (k + 2); omega
      · left
        rw [if_neg hd92] at hv
        refine ⟨((k + 1 : Nat) : Int), ?_, ⟨k + 1, rfl, by omega, by omega, ?_⟩, by omega⟩
        · rw [iteF (eqF hd92), chkT (by omega)]
        · rw [hv, if_neg (by omega), ← Nat.add_assoc]
          cases quoTail q (s.drop (i + k + 1)) with
          | none => rfl
          | some m => show m + 1 + k = m + (k + 1); omega)
    rw [g1, Option.bind_some]
    cases r with
    | inl u => simp only at g2; rw [← g2]; rfl
    | inr n => simp only at g2; rw [← g2]
  · rw [iteT (by rw [eqF hc]; simp)]
    simp only [quoLen, if_neg hc]; rfl
end Go.Sh
set_option linter.unusedVariables false
set_option linter.unusedSimpArgs false
namespace Go.Sh
open Go
def signF (u : List UInt8) (n : Nat) (y : List UInt8) : Nat := if y.length ≤ n ∨ y.isPrefixOf u = false then n else y.length
theorem signs_parts : signs = three ++ (two ++ ones.map fun c => [c]) := rfl
theorem signF_none (u : List UInt8) (m : Nat) : ∀ (L : List (List UInt8)), (∀ y ∈ L, y.length ≤ m) → L.foldl (signF u) m = m
 | [], _ => rfl
 | y :: L, h => by rw [List.foldl_cons, show signF u m y = m from if_pos (.inl (h y (by simp)))]; exact signF_none u m L fun y hy => h y (by simp [hy])
theorem signF_all (u : List UInt8) (m n : Nat) (hn : n < m) : ∀ (L : List (List UInt8)), (∀ y ∈ L, y.length = m) → L.foldl (signF u) n = if L.any (fun p => p.isPrefixOf u) = true then m else n
 | [], _ => rfl
 | y :: L, h => by
  rw [List.foldl_cons, List.any_cons]
  have hy := h y (by simp)
  by_cases hp : y.isPrefixOf u = true
  ·rw [show signF u n y = m by unfold signF; rw [if_neg (by rw [hp, hy]; simp; omega), hy], signF_none u m L fun y hy => by rw [h y (by simp [hy])]; exact Nat.le_refl _, hp]; rfl
  ·have hp : y.isPrefixOf u = false := Bool.eq_false_iff.2 hp
   rw [show signF u n y = n from if_pos (.inr hp), signF_all u m n hn L fun y hy => h y (by simp [hy]), hp]; rfl
theorem single_prefix (u : List UInt8) (c : UInt8) : [c].isPrefixOf u = (u.head? == some c) := by
 cases u with
 | nil => rfl
 | cons d r =>
  simp only [List.isPrefixOf, List.head?_cons, Bool.and_true]
  by_cases h : c = d
  ·subst h; simp
  ·rw [beq_eq_false_iff_ne.2 h, beq_eq_false_iff_ne.2 (fun e => h (by injection e with e; exact e.symm))]
theorem any_ones (u : List UInt8) : (ones.map fun c => [c]).any (fun p => p.isPrefixOf u) = ones.any (fun c => u.head? == some c) := by
 rw [List.any_map]; congr 1; funext c; exact single_prefix u c
theorem signLen_fold (u : List UInt8) : signs.foldl (signF u) 0 = signLen u := by
 rw [signs_parts, List.foldl_append, List.foldl_append, signF_all u 3 0 (by decide) three (by decide)]
 unfold signLen
 split
 ·rw [signF_none u 3 two (by decide), signF_none u 3 _ (by decide)]
 ·rw [signF_all u 2 0 (by decide) two (by decide)]
  split
  ·rw [signF_none u 2 _ (by decide)]
  ·rw [signF_all u 1 0 (by decide) _ (by decide), any_ones]
theorem signs_len : signs.length = 48 := rfl
theorem sign_eq (s : List UInt8) (i : Nat) (hi : i ≤ s.length) (hs : s.length ≤ 2000000) : pptok_reader_sign ⟨s, i⟩ = some (signLen (s.drop i) : Int) := by
 unfold pptok_reader_sign
 obtain ⟨r, h1, rfl⟩ := loopS_ix (f := pptok_reader_sign_b2 ⟨s, i⟩) 48 (by omega) (fun k x => x.2 = k ∧ x.1 = (((signs.take k).foldl (signF (s.drop i)) 0 : Nat) : Int)) (fun r => r = (signLen (s.drop i) : Int)) (s0 := ((0 : Int), (0 : Int))) ⟨rfl, rfl⟩ (by
  rintro k ⟨n, j⟩ hk ⟨h1, h2⟩
  simp only at h1 h2; subst h1; subst h2
  left
  have hk' : k < signs.length := by rw [signs_len]; exact hk
  have ht : signs.take (k + 1) = signs.take k ++ [signs[k]] := by rw [List.take_add_one, List.getElem?_eq_getElem hk']; rfl
  unfold pptok_reader_sign_b2
  simp only [has_eq s _ i hi, chkB, andB, orB, condAnd, condOr, iteB, neqB, nltB, nleB, m8_9, m8_10, m8_11, m8_12, m8_13, m8_32, m8_34, m8_35, m8_39, m8_40, m8_41, m8_42, m8_43, m8_44, m8_45, m8_46, m8_47, m8_48, m8_60, m8_62, m8_64, m8_65, m8_67, m8_69, m8_80, m8_90, m8_92, m8_95, m8_97, m8_101, m8_112, m8_122, m8, orO_some, andO_some, Option.bind_some, getD_drop]
  rw [iteT (ltT (by omega)), ix_at hk', Option.bind_some]
  by_cases hc : signs[k].length ≤ (signs.take k).foldl (signF (s.drop i)) 0 ∨ signs[k].isPrefixOf (s.drop i) = false
  ·refine ⟨((((signs.take k).foldl (signF (s.drop i)) 0 : Nat) : Int), (k : Int) + 1), ?_, rfl, ?_⟩
   ·rw [iteT, pk (by omega)]
    rcases hc with hc | hc
    ·rw [leT (by omega)]; rfl
    ·rw [hc]; simp
   ·simp only
    rw [ht, List.foldl_append, List.foldl_cons, List.foldl_nil, show signF (s.drop i) _ signs[k] = _ from if_pos hc]
  ·refine ⟨((signs[k].length : Int), (k : Int) + 1), ?_, rfl, ?_⟩
   ·rw [iteF, pk (by omega)]
    have hc := not_or.1 hc
    rw [leF (by omega), eq_true_of_ne_false hc.2]; rfl
   ·simp only
    rw [ht, List.foldl_append, List.foldl_cons, List.foldl_nil, show signF (s.drop i) _ signs[k] = _ from if_neg hc]) (by
  rintro ⟨n, j⟩ ⟨h1, h2⟩
  simp only at h1 h2; subst h1; subst h2
  refine ⟨_, ?_, rfl⟩
  unfold pptok_reader_sign_b2
  simp only [chkB, andB, orB, condAnd, condOr, iteB, neqB, nltB, nleB, m8_9, m8_10, m8_11, m8_12, m8_13, m8_32, m8_34, m8_35, m8_39, m8_40, m8_41, m8_42, m8_43, m8_44, m8_45, m8_46, m8_47, m8_48, m8_60, m8_62, m8_64, m8_65, m8_67, m8_69, m8_80, m8_90, m8_92, m8_95, m8_97, m8_101, m8_112, m8_122, m8, orO_some, andO_some, Option.bind_some, getD_drop]
  rw [iteF (ltF (by omega)), List.take_of_length_le (by rw [signs_len]; exact Nat.le_refl _), signLen_fold])
 rw [h1, Option.bind_some]; rfl
theorem next_eq (s : List UInt8) (i : Nat) (hi : i ≤ s.length) (hs : s.length ≤ 2000000) : pptok_reader_next ⟨s, i⟩ = some ((nextTok (s.drop i)).1, ((nextTok (s.drop i)).2 : Int)) := by
 unfold pptok_reader_next nextTok
 simp only [has_eq s _ i hi, word_eq s i hi hs, number_eq s i hi hs, quoted_eq s i _ hi hs, sign_eq s i hi hs, chkB, andB, orB, condAnd, condOr, iteB, neqB, nltB, nleB, m8_9, m8_10, m8_11, m8_12, m8_13, m8_32, m8_34, m8_35, m8_39, m8_40, m8_41, m8_42, m8_43, m8_44, m8_45, m8_46, m8_47, m8_48, m8_60, m8_62, m8_64, m8_65, m8_67, m8_69, m8_80, m8_90, m8_92, m8_95, m8_97, m8_101, m8_112, m8_122, m8, orO_some, andO_some, Option.bind_some, getD_drop, single_prefix]
 by_cases h0 : (s.drop i).head? = some 10
 ·rw [iteT (by rw [h0]; rfl), if_pos h0]; rfl
 rw [iteF (by simpa using h0), if_neg h0]
 by_cases h1 : 0 < wordLen (s.drop i)
 ·rw [iteT (ltT (by omega)), if_pos h1]
 rw [iteF (ltF (by omega)), if_neg h1]
 by_cases h1 : 0 < numLen (s.drop i)
 ·rw [iteT (ltT (by omega)), if_pos h1]
 rw [iteF (ltF (by omega)), if_neg h1]
 by_cases h1 : 0 < quoLen 34 (s.drop i)
 ·rw [iteT (ltT (by omega)), if_pos h1]
 rw [iteF (ltF (by omega)), if_neg h1]
 by_cases h1 : 0 < quoLen 39 (s.drop i)
 ·rw [iteT (ltT (by omega)), if_pos h1]
 rw [iteF (ltF (by omega)), if_neg h1]
 by_cases h1 : 0 < signLen (s.drop i)
 ·rw [iteT (ltT (by omega)), if_pos h1]
 rw [iteF (ltF (by omega)), if_neg h1]; rfl
theorem index_line : ∀ u : List UInt8, Lib.indexByte u 10 = if lineLen u = u.length then -1 else (lineLen u : Int)
 | [] => rfl
 | c :: r => by
  have ih := index_line r
  have hl := lineLen_le r
  rw [Lib.indexByte]
  by_cases hc : c = 10
  ·subst hc; simp [lineLen]
  ·have he : lineLen (c :: r) = 1 + lineLen r := if_neg hc
   rw [if_neg (by simpa using hc), ih]
   by_cases h : lineLen r = r.length
   ·rw [if_pos h, if_pos (show ((-1 : Int) == -1) = true from rfl), if_pos (by rw [he, List.length_cons]; omega)]
   ·rw [if_neg h, if_neg (by simp <;> omega), if_neg (by rw [he, List.length_cons]; omega), he]; push_cast; omega
theorem index_block : ∀ u : List UInt8, Lib.index u [42, 47] = match blockLen u with | none => -1 | some n => (n : Int) - 2
  | [] => rfl
  | [c] => by simp [Lib.index, List.isPrefixOf, blockLen]
  | c :: d :: r => by
    have ih := index_block (d :: r)
    rw [Lib.index]
    simp only [blockLen]
    by_cases hc : c = 42 ∧ d = 47
    · rw [if_pos (by simp [List.isPrefixOf, hc.1, hc.2]), if_pos hc]; rfl
    · rw [if_neg (by simp only [List.isPrefixOf]; intro h; simp only [Bool.and_eq_true, beq_iff_eq] at h; exact hc ⟨h.1.symm, h.2.1.symm⟩), if_neg hc, ih]
      cases hb : blockLen (d :: r) with
      | none => rfl
      | some n =>
        have := blockLen_le _ n hb
        simp only [Option.map_some]
        rw [if_neg (by simp; omega)]
        show (n : Int) - 2 + 1 = ((n + 1 : Nat) : Int) - 2
        push_cast; omega
theorem prefix2 (a b : UInt8) (u : List UInt8) : ([a, b] : List UInt8).isPrefixOf u = true ↔ ∃ r, u = a :: b :: r := by
 match u with
 | [] => simp
 | [c] => simp [List.isPrefixOf]
 | c :: d :: r =>
  simp only [List.isPrefixOf, Bool.and_eq_true, beq_iff_eq]
  constructor
  ·rintro ⟨rfl, rfl, _⟩; exact ⟨r, rfl⟩
  ·rintro ⟨r', h⟩; injection h with h1 h; injection h with h2 h; subst h1; subst h2; simp
theorem blank_j1_eq (s : List UInt8) (i : Nat) (hi : i ≤ s.length) (hs : s.length ≤ 2000000) : isWS ((s.drop i).headD 0) = false → pptok_reader_blank_j1 ⟨s, i⟩ = some (decide (0 < blankLen (s.drop i)), ⟨s, ((i + blankLen (s.drop i) : Nat) : Int)⟩) := by
  intro hw
  unfold pptok_reader_blank_j1 pptok_reader_blank_j3
  simp only [has_eq s _ i hi, chkB, andB, orB, condAnd, condOr, iteB, neqB, nltB, nleB, m8_9, m8_10, m8_11, m8_12, m8_13, m8_32, m8_34, m8_35, m8_39, m8_40, m8_41, m8_42, m8_43, m8_44, m8_45, m8_46, m8_47, m8_48, m8_60, m8_62, m8_64, m8_65, m8_67, m8_69, m8_80, m8_90, m8_92, m8_95, m8_97, m8_101, m8_112, m8_122, m8, orO_some, andO_some, Option.bind_some, getD_drop, Int.toNat_natCast]
  rcases drop_cases s i with ⟨h1, h2⟩ | ⟨c, h1, h2, h3⟩
  · rw [h1]
    simp [List.isPrefixOf, blankLen]
  rw [h2] at hw ⊢
  simp only [List.headD_cons] at hw
  have hle := blankLen_le (c :: s.drop (i + 1))
  simp only [List.length_cons, List.length_drop] at hle
  by_cases hl : ([47, 47] : List UInt8).isPrefixOf (c :: s.drop (i + 1)) = true
  · obtain ⟨r, hr⟩ := (prefix2 _ _ _).1 hl
    have e : blankLen (c :: s.drop (i + 1)) = lineLen (c :: s.drop (i + 1)) := by
      rw [hr]; simp [blankLen, lineLen, isWS]
    have hp : 0 < lineLen (c :: s.drop (i + 1)) := by rw [hr]; simp [lineLen]; omega
    rw [iteT hl, pk (by omega), index_line, e]
    rw [e] at hle
    by_cases hn : lineLen (c :: s.drop (i + 1)) = (c :: s.drop (i + 1)).length
    · rw [if_pos hn, iteT (by rfl), pk (by omega), pk (by omega), decide_eq_true hp]
      simp only [List.length_cons, List.length_drop] at hn
      simp only [Option.some.injEq, Prod.mk.injEq, true_and, GPptok_reader.mk.injEq]
      omega
    · rw [if_neg hn, iteF (ltF (by omega)), pk (by omega), decide_eq_true hp]; rfl
  rw [iteF (Bool.eq_false_iff.2 hl)]
  have hl' : ¬ (c = 47 ∧ (s.drop (i + 1)).head? = some 47) := by
    rintro ⟨rfl, h⟩
    apply hl
    cases hd : s.drop (i + 1) with
    | nil => rw [hd] at h; cases h
    | cons d r => rw [hd] at h; injection h with h; subst h; rfl
  by_cases hb : ([47, 42] : List UInt8).isPrefixOf (c :: s.drop (i + 1)) = true
  · obtain ⟨r, hr⟩ := (prefix2 _ _ _).1 hb
    injection hr with hr1 hr2
    have h5 : i + 2 ≤ s.length := by
      have := congrArg List.length hr2
      simp only [List.length_drop, List.length_cons] at this; omega
    have e2 : ((i : Int) + 2) = ((i + 2 : Nat) : Int) := rfl
    have h6 : s.drop (i + 2) = r := by
      have := congrArg (List.drop 1) hr2
      rw [List.drop_drop] at this; simpa using this
    simp only [e2, Int.toNat_natCast]
    rw [iteF (by rw [hb]; rfl), pk (by omega), pk (by omega), pk (by rw [List.length_drop]; omega), index_block, h6]
    cases hbl : blockLen r with
    | none =>
      have e : blankLen (c :: s.drop (i + 1)) = 0 := by
        rw [hr2, hr1]; simp [blankLen, isWS, hbl]
      rw [e]
      simp [ilt]
    | some n =>
      have e : blankLen (c :: s.drop (i + 1)) = n + 2 := by
        rw [hr2, hr1]; simp [blankLen, isWS, hbl]
      rw [e] at hle ⊢
      have := blockLen_le _ n hbl
      simp only at hle ⊢
      rw [iteF (ltF (by omega)), pk (by omega), pk (by omega), decide_eq_true (by omega)]
      simp only [Option.some.injEq, Prod.mk.injEq, true_and, GPptok_reader.mk.injEq]
      push_cast; omega
  · have hb' : ¬ (c = 47 ∧ (s.drop (i + 1)).head? = some 42) := by
      rintro ⟨rfl, h⟩
      apply hb
      cases hd : s.drop (i + 1) with
      | nil => rw [hd] at h; cases h
      | cons d r => rw [hd] at h; injection h with h; subst h; rfl
    rw [iteT (by rw [Bool.eq_false_iff.2 hb]; rfl)]
    have e : blankLen (c :: s.drop (i + 1)) = 0 := by
      simp only [blankLen, hw]
      rw [if_neg (by simp), if_neg hl', if_neg hb']
    rw [e]; rfl
theorem blank_eq (s : List UInt8) (i : Nat) (hi : i ≤ s.length) (hs : s.length ≤ 2000000) : pptok_reader_blank ⟨s, i⟩ = some (decide (0 < blankLen (s.drop i)), ⟨s, ((i + blankLen (s.drop i) : Nat) : Int)⟩) := by
 unfold pptok_reader_blank
 have b0 := byte_eq s i 0 (by omega)
 simp only [Nat.add_zero, show ((0 : Nat) : Int) = 0 from rfl] at b0
 simp only [b0, chkB, andB, orB, condAnd, condOr, iteB, neqB, nltB, nleB, m8_9, m8_10, m8_11, m8_12, m8_13, m8_32, m8_34, m8_35, m8_39, m8_40, m8_41, m8_42, m8_43, m8_44, m8_45, m8_46, m8_47, m8_48, m8_60, m8_62, m8_64, m8_65, m8_67, m8_69, m8_80, m8_90, m8_92, m8_95, m8_97, m8_101, m8_112, m8_122, m8, orO_some, andO_some, Option.bind_some, getD_drop]
 by_cases hw : isWS ((s.drop i).headD 0) = true
 ·rcases drop_cases s i with ⟨h1, h2⟩ | ⟨c, h1, h2, h3⟩
  ·rw [h1] at hw; exact absurd hw (by decide)
  rw [h2] at hw ⊢
  simp only [List.headD_cons] at hw ⊢
  have e : blankLen (c :: s.drop (i + 1)) = 1 := by simp only [blankLen, hw, if_true]
  rw [e]
  have hw2 := hw
  simp only [isWS, Bool.or_eq_true, beq_iff_eq] at hw2
  have fin : pptok_reader_blank_j2 ⟨s, i⟩ true = some (decide (0 < 1), ⟨s, ((i + 1 : Nat) : Int)⟩) := by
   unfold pptok_reader_blank_j2
   rw [if_pos rfl]
   simp only
   rw [chkT (by omega), decide_eq_true Nat.zero_lt_one]; rfl
  by_cases q1 : c = 32
  ·rw [eqT q1, iteT rfl]; exact fin
  rw [eqF q1, iteF rfl]
  by_cases q2 : c = 9
  ·rw [eqT q2, iteT rfl]; exact fin
  rw [eqF q2, iteF rfl]
  by_cases q3 : c = 11
  ·rw [eqT q3, iteT rfl]; exact fin
  rw [eqF q3, iteF rfl]
  by_cases q4 : c = 12
  ·rw [eqT q4, iteT rfl]; exact fin
  rw [eqF q4, iteF rfl]
  have q5 : c = 13 := by
   rcases hw2 with (((h | h) | h) | h) | h
   ·exact absurd h q1
   ·exact absurd h q2
   ·exact absurd h q3
   ·exact absurd h q4
   ·exact h
  rw [eqT q5]; exact fin
 ·have hw' : isWS ((s.drop i).headD 0) = false := by simpa using hw
  have hw2 := hw'
  simp only [isWS, Bool.or_eq_false_iff] at hw2
  obtain ⟨⟨⟨⟨g1, g2⟩, g3⟩, g4⟩, g5⟩ := hw2
  rw [iteF g1, iteF g2, iteF g3, iteF g4, g5]
  unfold pptok_reader_blank_j2
  simp only [iteB, cond_false]
  exact blank_j1_eq s i hi hs hw'
end Go.Sh
set_option linter.unusedVariables false
set_option linter.unusedSimpArgs false
namespace Go.Sh
open Go
end Go.Sh
set_option linter.unusedVariables false
set_option linter.unusedSimpArgs false
namespace Go.Sh
open Go
theorem toks_length (n : Nat) : ∀ (i : Nat) (b : Bool) (u : List UInt8), u.length ≤ n → (toks i b u).length ≤ u.length := by
 induction n with
 | zero =>
  intro i b u h
  have : u = [] := List.length_eq_zero_iff.1 (by omega)
  subst this; rw [toks_nil]; exact Nat.le_refl _
 | succ n ih =>
  intro i b u h
  by_cases hu : u = []
  ·subst hu; rw [toks_nil]; exact Nat.le_refl _
  by_cases hb : 0 < blankLen u
  ·rw [toks_blank hb]
   have := ih (i + blankLen u) true (u.drop (blankLen u)) (by rw [List.length_drop]; omega)
   rw [List.length_drop] at this; omega
  ·rw [toks_tok hu (by omega), List.length_cons]
   have h1 := nextTok_pos u
   have h2 := nextTok_le u hu
   have := ih (i + (nextTok u).2) false (u.drop (nextTok u).2) (by rw [List.length_drop]; omega)
   rw [List.length_drop] at this; omega
def atOf (l : List GChar) (i : Nat) : Int := (l[i]?.map GChar.at_).getD 0
def tokOf (file : Int) (l : List GChar) (p : PT) : GTok := ⟨p.kind, p.text, file, atOf l p.i, atOf l (p.j - 1) + 1, p.blank⟩
def tokens (file : Int) (text : List UInt8) : List GTok := (toks 0 false ((charsAt 0 text).map GChar.b)).map (tokOf file (charsAt 0 text))
theorem atOf_get {l : List GChar} {i : Nat} (h : i < l.length) : ∃ y, l[i]? = some y ∧ y.at_ = atOf l i := ⟨l[i], List.getElem?_eq_getElem h, by unfold atOf; rw [List.getElem?_eq_getElem h]; rfl⟩
theorem charsAt_bound : ∀ (t : List UInt8) (i : Nat), ∀ c ∈ charsAt i t, (i : Int) ≤ c.at_ ∧ c.at_ < i + t.length
 | [], i, c, h => by simp [charsAt] at h
 | [x], i, c, h => by simp [charsAt] at h; subst h; simp only [List.length_cons, List.length_nil]; omega
 | x :: y :: r, i, c, h => by
  unfold charsAt at h
  split at h
  ·have := charsAt_bound r (i + 2) c h
   simp only [List.length_cons]; push_cast at *; omega
  ·rcases List.mem_cons.1 h with rfl | h
   ·simp only [List.length_cons]; push_cast; omega
   ·have := charsAt_bound (y :: r) (i + 1) c h
    simp only [List.length_cons] at *; push_cast at *; omega
theorem atOf_bound {t : List UInt8} {i : Nat} (h : i < (charsAt 0 t).length) : 0 ≤ atOf (charsAt 0 t) i ∧ atOf (charsAt 0 t) i < t.length := by
 obtain ⟨y, h1, h2⟩ := atOf_get h
 have := charsAt_bound t 0 y (List.mem_of_getElem? h1)
 rw [← h2]; push_cast at this; omega
theorem pass_eq (s : List UInt8) (t0 : GTok) (k0 : Nat) (hk0 : k0 ≤ s.length) (hs : s.length ≤ 2000000) (hb0 : t0.blank = false) :
  ∃ r, loopS pptok_Tokens_b3 (t0, ⟨s, k0⟩) = some r ∧ ∃ (k : Nat) (b : Bool), r = ({ t0 with blank := b }, ⟨s, k⟩) ∧ k0 ≤ k ∧ k ≤ s.length ∧ toks k b (s.drop k) = toks k0 false (s.drop k0) ∧ (k = s.length ∨ k < s.length ∧ blankLen (s.drop k) = 0) := by
 refine loopS_rel (f := pptok_Tokens_b3) (fun x => ∃ (k : Nat) (b : Bool), x = ({ t0 with blank := b }, ⟨s, k⟩) ∧ k0 ≤ k ∧ k ≤ s.length ∧ toks k b (s.drop k) = toks k0 false (s.drop k0)) (fun x => s.length - x.2.at_.toNat) _ (s := (t0, (⟨s, k0⟩ : GPptok_reader))) ⟨k0, false, by rw [← hb0], Nat.le_refl _, hk0, rfl⟩ (by simp only; omega) ?_
 rintro x ⟨k, b, rfl, hk1, hk, ht⟩
 unfold pptok_Tokens_b3
 simp only [blank_eq s k hk hs, chkB, andB, orB, condAnd, condOr, iteB, neqB, nltB, nleB, m8_9, m8_10, m8_11, m8_12, m8_13, m8_32, m8_34, m8_35, m8_39, m8_40, m8_41, m8_42, m8_43, m8_44, m8_45, m8_46, m8_47, m8_48, m8_60, m8_62, m8_64, m8_65, m8_67, m8_69, m8_80, m8_90, m8_92, m8_95, m8_97, m8_101, m8_112, m8_122, m8, orO_some, andO_some, Option.bind_some, getD_drop]
 by_cases hlt : k < s.length
 ·rw [iteT (ltT (by omega))]
  have hle := blankLen_le (s.drop k)
  rw [List.length_drop] at hle
  by_cases hb : 0 < blankLen (s.drop k)
  ·left
   refine ⟨_, iteT (decide_eq_true hb), ⟨k + blankLen (s.drop k), true, rfl, by omega, by omega, ?_⟩, by simp only; omega⟩
   rw [← ht, toks_blank hb, List.drop_drop]
  ·right
   refine ⟨_, iteF (decide_eq_false hb), ⟨k, b, ?_, hk1, hk, ht, .inr ⟨hlt, by omega⟩⟩⟩
   rw [show blankLen (s.drop k) = 0 by omega]; rfl
 ·right
  exact ⟨_, iteF (ltF (by omega)), ⟨k, b, rfl, hk1, hk, ht, .inl (by omega)⟩⟩
theorem tokens_eq (file : Int) (t : List UInt8) (ht : t.length ≤ 2000000) : pptok_Tokens file t = some (tokens file t) := by
  unfold pptok_Tokens
  have hcl := charsAt_len t 0
  rw [bind_of (spliceJoin_eq t ht), bind_of (spliceText_eq _ (by omega))]
  obtain ⟨l, hl⟩ : ∃ l, l = charsAt 0 t := ⟨_, rfl⟩
  obtain ⟨s, hs⟩ : ∃ s, s = l.map GChar.b := ⟨_, rfl⟩
  have hsl : s.length = l.length := by rw [hs, List.length_map]
  have hat : ∀ i, i < l.length → 0 ≤ atOf l i ∧ atOf l i < t.length := fun i hi => by rw [hl] at *; exact atOf_bound hi
  unfold tokens
  rw [← hl, ← hs]
  rw [← hl] at hcl
  have hall := toks_length _ 0 false s (Nat.le_refl _)
  obtain ⟨r, h1, rfl⟩ := loopS_rel (f := pptok_Tokens_b1 file l) (fun x => ∃ k : Nat, x.2 = ⟨s, k⟩ ∧ k ≤ s.length ∧ x.1 ++ (toks k false (s.drop k)).map (tokOf file l) = (toks 0 false s).map (tokOf file l)) (fun x => s.length - x.2.at_.toNat) (fun r => r = (toks 0 false s).map (tokOf file l)) (s := (([] : List GTok), (⟨s, (0 : Int)⟩ : GPptok_reader))) ⟨0, rfl, Nat.zero_le _, by simp⟩ (by simp only; omega) (by
    rintro ⟨out, r⟩ ⟨k0, hr, hk0, ho⟩
    simp only at hr ho; subst hr
    unfold pptok_Tokens_b1
    simp only
    obtain ⟨r, h1, k, b, rfl, hk1, hk, hto, hend⟩ := pass_eq s (GTok.mk 0 [] file 0 0 false) k0 hk0 (by omega) rfl
    rw [h1, Option.bind_some]
    unfold pptok_Tokens_j2
    rw [← hto] at ho
    simp only [next_eq s k hk (by omega), chkB, andB, orB, condAnd, condOr, iteB, neqB, nltB, nleB, m8_9, m8_10, m8_11, m8_12, m8_13, m8_32, m8_34, m8_35, m8_39, m8_40, m8_41, m8_42, m8_43, m8_44, m8_45, m8_46, m8_47, m8_48, m8_60, m8_62, m8_64, m8_65, m8_67, m8_69, m8_80, m8_90, m8_92, m8_95, m8_97, m8_101, m8_112, m8_122, m8, orO_some, andO_some, Option.bind_some, getD_drop]
    rcases hend with hend | ⟨hlt, hbl⟩
    · right
      refine ⟨out, iteT (leT (by omega)), ?_⟩
      rw [hend, List.drop_length, toks_nil] at ho
      simpa using ho
    · left
      have hne : s.drop k ≠ [] := fun h => by have := congrArg List.length h; rw [List.length_drop] at this; simp at this; omega
      rw [toks_tok hne hbl, List.map_cons] at ho
      have hn1 := nextTok_pos (s.drop k)
      have hn2 := nextTok_le (s.drop k) hne
      rw [List.length_drop] at hn2
      have hol := congrArg List.length ho
      simp only [List.length_append, List.length_cons, List.length_map] at hol
      obtain ⟨n, hn⟩ : ∃ n, n = (nextTok (s.drop k)).2 := ⟨_, rfl⟩
      rw [← hn] at hn1 hn2 ho ⊢
      have e1 : ((k : Int) + (n : Int)) = ((k + n : Nat) : Int) := rfl
      have e2 : (((k + n : Nat) : Int) - 1) = ((k + n - 1 : Nat) : Int) := by omega
      simp only [e1, e2, Int.toNat_natCast]
      obtain ⟨y1, g1, g2⟩ := atOf_get (l := l) (i := k) (by omega)
      obtain ⟨y2, g3, g4⟩ := atOf_get (l := l) (i := k + n - 1) (by omega)
      have b1 := hat k (by omega)
      have b2 := hat (k + n - 1) (by omega)
      refine ⟨(out ++ [tokOf file l ⟨(nextTok (s.drop k)).1, (s.drop k).take n, k, k + n, b⟩], ⟨s, ((k + n : Nat) : Int)⟩), ?_, ⟨k + n, rfl, by omega, ?_⟩, by simp only; omega⟩
      · rw [iteF (leF (by omega)), pk (by omega), pk (by omega), ix_of g1 rfl, Option.bind_some, pk (by omega), pk (by omega), ix_of g3 rfl, Option.bind_some, pk (by omega), pk (by omega), pk (by omega), show k + n - k = n by omega, g2, g4]
        rfl
      · rw [← ho, List.append_assoc, List.drop_drop]; rfl)
  rw [h1]; rfl
end Go.Sh
set_option linter.unusedVariables false
set_option linter.unusedSimpArgs false
namespace Go.Sh
open Go
def tk (t : GTok) : Int × List UInt8 × Bool := (t.kind, t.text, t.blank)
def printOne (t : GTok) : List UInt8 := (if t.blank = true then [32] else []) ++ t.text
def printT (l : List GTok) : List UInt8 := l.flatMap printOne
theorem tokens_len (file : Int) (t : List UInt8) : (tokens file t).length ≤ t.length := by
 unfold tokens
 rw [List.length_map]
 have h1 := toks_length _ 0 false _ (Nat.le_refl ((charsAt 0 t).map GChar.b).length)
 have h2 := charsAt_len t 0
 rw [List.length_map] at h1; omega
theorem toks_room (file : Int) (l : List GChar) (n : Nat) : ∀ (i : Nat) (b : Bool) (u : List UInt8), u.length ≤ n → (printT ((toks i b u).map (tokOf file l))).length ≤ (if b = true then 1 else 0) + u.length := by
 induction n with
 | zero =>
  intro i b u h
  have : u = [] := List.length_eq_zero_iff.1 (by omega)
  subst this; rw [toks_nil]; simp [printT]
 | succ n ih =>
  intro i b u h
  by_cases hu : u = []
  ·subst hu; rw [toks_nil]; simp [printT]
  by_cases hb : 0 < blankLen u
  ·rw [toks_blank hb]
   have := ih (i + blankLen u) true (u.drop (blankLen u)) (by rw [List.length_drop]; omega)
   have hle := blankLen_le u
   rw [List.length_drop, if_pos rfl] at this; omega
  ·rw [toks_tok hu (by omega)]
   have h1 := nextTok_pos u
   have h2 := nextTok_le u hu
   have := ih (i + (nextTok u).2) false (u.drop (nextTok u).2) (by rw [List.length_drop]; omega)
   rw [List.length_drop, if_neg (by simp)] at this
   simp only [List.map_cons, printT, List.flatMap_cons, List.length_append] at this ⊢
   have h3 : (printOne (tokOf file l ⟨(nextTok u).1, u.take (nextTok u).2, i, i + (nextTok u).2, b⟩)).length ≤ (if b = true then 1 else 0) + (nextTok u).2 := by
    unfold printOne tokOf
    simp only [List.length_append, List.length_take]
    split <;> simp <;> omega
   omega
theorem tokens_room (file : Int) (t : List UInt8) : (printT (tokens file t)).length ≤ t.length := by
 have := toks_room file (charsAt 0 t) _ 0 false _ (Nat.le_refl ((charsAt 0 t).map GChar.b).length)
 have h2 := charsAt_len t 0
 rw [List.length_map, if_neg (by simp)] at this
 unfold tokens; omega
end Go.Sh
