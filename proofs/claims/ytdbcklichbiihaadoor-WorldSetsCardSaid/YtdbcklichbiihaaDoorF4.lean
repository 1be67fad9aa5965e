/-
  WorldSets, WorldBack in plain words. No program in sight.
-/
import Derived.Test.YtdbcklichbiihaaDoorF3
set_option linter.unusedVariables false
set_option linter.unusedSimpArgs false
namespace Go.Sh
open Go
/-! ### numbers as sets -/
theorem wrap_id (k : Int) (h : 0 ≤ k) (h2 : k < 9223372036854775808) : IntKind.wrap .i64 k = k := by
  simp only [IntKind.wrap, IntKind.bits, IntKind.signed]; simp; omega
theorem shl_one (n : Nat) (h : n ≤ 8) : shl 1 n = ((2 ^ n : Nat) : Int) := by
  have : n = 0 ∨ n = 1 ∨ n = 2 ∨ n = 3 ∨ n = 4 ∨ n = 5 ∨ n = 6 ∨ n = 7 ∨ n = 8 := by omega
  rcases this with rfl | rfl | rfl | rfl | rfl | rfl | rfl | rfl | rfl <;> decide
theorem shr_nat (s n : Nat) (h : n ≤ 8) : shr s n = ((s / 2 ^ n : Nat) : Int) := by
  unfold shr
  rw [show min ((n : Int).toNat) (IntKind.bits .i64) = n by rw [Int.toNat_natCast]; show min n 64 = n; omega]
  rw [Int.fdiv_eq_ediv_of_nonneg _ (by exact_mod_cast Nat.zero_le _)]
  push_cast; rfl
theorem bv_nat (a : Nat) (h : a < 9223372036854775808) : (BitVec.ofInt 64 (a : Int)).toNat = a := by
  rw [BitVec.toNat_ofInt]; omega
theorem band_nat (a b : Nat) (ha : a < 9223372036854775808) (hb : b < 9223372036854775808) : band a b = ((a &&& b : Nat) : Int) := by
  unfold band
  have e : (BitVec.ofInt (IntKind.bits .i64) (a : Int) &&& BitVec.ofInt (IntKind.bits .i64) (b : Int)).toNat = a &&& b := by
    show (BitVec.ofInt 64 (a : Int) &&& BitVec.ofInt 64 (b : Int)).toNat = _
    rw [BitVec.toNat_and, bv_nat a ha, bv_nat b hb]
  rw [e]
  have := Nat.and_le_left (n := a) (m := b)
  exact wrap_id _ (by omega) (by omega)
theorem bor_nat (a b : Nat) (ha : a < 1024) (hb : b < 1024) : bor a b = ((a ||| b : Nat) : Int) := by
  unfold bor
  have e : (BitVec.ofInt (IntKind.bits .i64) (a : Int) ||| BitVec.ofInt (IntKind.bits .i64) (b : Int)).toNat = a ||| b := by
    show (BitVec.ofInt 64 (a : Int) ||| BitVec.ofInt 64 (b : Int)).toNat = _
    rw [BitVec.toNat_or, bv_nat a (by omega), bv_nat b (by omega)]
  rw [e]
  have := Nat.or_lt_two_pow (n := 10) (x := a) (y := b) ha hb
  exact wrap_id _ (by omega) (by omega)
theorem bit_one (s n : Nat) (h : n ≤ 8) (hs : s < 9223372036854775808) : decide (band (shr s n) 1 = 1) = s.testBit n := by
  rw [shr_nat s n h]
  have hd : s / 2 ^ n ≤ s := Nat.div_le_self _ _
  rw [show (1 : Int) = ((1 : Nat) : Int) from rfl, band_nat _ 1 (by omega) (by omega), Nat.and_one_is_mod, Nat.testBit_eq_decide_div_mod_eq]
  rw [decide_eq_decide]; omega
/-! ### what a set defines -/
def defsF (s : Nat) : Nat → List Tx → List Tx
  | _, [] => []
  | i, n :: r => if s.testBit i = true then n :: defsF s (i + 1) r else defsF s (i + 1) r
theorem defsF_append (s : Nat) : ∀ (a b : List Tx) (i : Nat), defsF s i (a ++ b) = defsF s i a ++ defsF s (i + a.length) b
  | [], b, i => rfl
  | n :: a, b, i => by
    rw [List.cons_append, defsF, defsF, defsF_append s a b (i + 1), List.length_cons, show i + 1 + a.length = i + (a.length + 1) by omega]
    split <;> rfl
theorem defsF_len (s : Nat) : ∀ (a : List Tx) (i : Nat), (defsF s i a).length ≤ a.length
  | [], i => Nat.le_refl _
  | n :: a, i => by
    have := defsF_len s a (i + 1)
    rw [defsF]; split
    · rw [List.length_cons, List.length_cons]; omega
    · rw [List.length_cons]; omega
def defsR (names : List Tx) (set : Int) : List Tx × Int := if names.length ≤ 8 ∧ 0 ≤ set ∧ set < ((2 ^ names.length : Nat) : Int) then (defsF set.toNat 0 names, 0) else ([], 1)
theorem pow_le8 (n : Nat) (h : n ≤ 8) : 2 ^ n ≤ 256 := Nat.pow_le_pow_right (by omega) h
theorem defs_eq (names : List Tx) (set : Int) (hn : names.length ≤ 1000) (h64 : I64 set) : world_Defs names set = some (defsR names set) := by
  unfold world_Defs defsR
  by_cases h8 : names.length ≤ 8
  · have hp := pow_le8 _ h8
    rw [orO_some, Option.bind_some, shl_one _ h8, chkT (by omega), orO_some, Option.bind_some]
    by_cases h : 0 ≤ set ∧ set < ((2 ^ names.length : Nat) : Int)
    · obtain ⟨s, rfl⟩ : ∃ s : Nat, set = (s : Int) := ⟨set.toNat, by omega⟩
      rw [if_neg (by simp only [Bool.or_eq_true, decide_eq_true_eq]; omega), if_pos ⟨h8, h⟩, Int.toNat_natCast]
      obtain ⟨r, g1, rfl⟩ := loopS_ix (f := world_Defs_b2 names (s : Int)) names.length (by omega) (fun k x => x = ((k : Int), defsF s 0 (names.take k))) (fun r => r = defsF s 0 names) (s0 := ((0 : Int), ([] : List Tx))) rfl (by
        rintro k x hk rfl
        left
        have hl := defsF_len s (names.take k) 0
        rw [List.length_take] at hl
        refine ⟨_, ?_, rfl⟩
        unfold world_Defs_b2
        simp only
        rw [if_pos (decide_eq_true (show (k : Int) < (names.length : Int) by omega)), ix_at hk, Option.bind_some, chkT (by omega), bit_one s k (by omega) (by omega), List.take_add_one, List.getElem?_eq_getElem hk, defsF_append, List.length_take, Nat.zero_add, show min k names.length = k by omega]
        simp only [Option.toList_some, defsF]
        by_cases hb : s.testBit k = true
        · rw [if_pos hb, if_pos hb, chkT (by omega), chkT (by omega)]; rfl
        · rw [if_neg hb, if_neg hb, chkT (by omega), List.append_nil]; rfl) (by
        rintro x rfl
        rw [List.take_length]
        refine ⟨_, ?_, rfl⟩
        unfold world_Defs_b2
        exact if_neg (by simp))
      rw [g1]; rfl
    · rw [if_pos (by simp only [Bool.or_eq_true, decide_eq_true_eq]; omega), if_neg (fun e => h e.2)]
  · rw [if_neg (fun e => h8 e.1)]
    rw [orO_some, Option.bind_some, decide_eq_true (show (8 : Int) < (names.length : Int) by omega), Bool.true_or]
    rfl
theorem testBit_zero_half (s k : Nat) : s.testBit k = (decide (s / 2 ^ k % 2 = 1)) := by rw [Nat.testBit_eq_decide_div_mod_eq]
theorem rdefs_eq (names : List Tx) (set : Int) (hn : names.length ≤ 1000) (h64 : I64 set) : emendref11_Defs names set = some (defsR names set) := by
  unfold emendref11_Defs defsR
  by_cases h8 : names.length ≤ 8
  · have hp := pow_le8 _ h8
    rw [orO_some, Option.bind_some]
    by_cases h0 : 0 ≤ set
    · obtain ⟨s, rfl⟩ : ∃ s : Nat, set = (s : Int) := ⟨set.toNat, by omega⟩
      rw [if_neg (by simp only [Bool.or_eq_true, decide_eq_true_eq]; omega), Int.toNat_natCast]
      obtain ⟨r, g1, rfl⟩ := loopS_ix (f := emendref11_Defs_b2 names) names.length (by omega) (fun k x => x = (((s / 2 ^ k : Nat) : Int), (k : Int), defsF s 0 (names.take k))) (fun r => r = (((s / 2 ^ names.length : Nat) : Int), defsF s 0 names)) (s0 := ((s : Int), (0 : Int), ([] : List Tx))) (by rw [Nat.pow_zero, Nat.div_one]; rfl) (by
        rintro k x hk rfl
        left
        have hl := defsF_len s (names.take k) 0
        rw [List.length_take] at hl
        have hd : s / 2 ^ k ≤ s := Nat.div_le_self _ _
        have e1 : ((s / 2 ^ k : Nat) : Int).tmod 2 = ((s / 2 ^ k % 2 : Nat) : Int) := by
          rw [Int.tmod_eq_emod_of_nonneg (Int.natCast_nonneg _)]; rfl
        have e2 : ((s / 2 ^ k : Nat) : Int).tdiv 2 = ((s / 2 ^ (k + 1) : Nat) : Int) := by
          rw [Int.tdiv_eq_ediv_of_nonneg (Int.natCast_nonneg _), Nat.pow_succ, ← Nat.div_div_eq_div_mul]; rfl
        have hd2 : s / 2 ^ (k + 1) ≤ s := Nat.div_le_self _ _
        have hq : I64 ((s / 2 ^ (k + 1) : Nat) : Int) := by
          have := Int.natCast_nonneg (s / 2 ^ (k + 1))
          have h3 : ((s / 2 ^ (k + 1) : Nat) : Int) ≤ (s : Int) := Int.ofNat_le.2 hd2
          exact ⟨by omega, by omega⟩
        refine ⟨_, ?_, rfl⟩
        unfold emendref11_Defs_b2
        simp only
        rw [if_pos (decide_eq_true (show (k : Int) < (names.length : Int) by omega)), chkT (by omega), e1, e2, ix_at hk, Option.bind_some, List.take_add_one, List.getElem?_eq_getElem hk, defsF_append, List.length_take, Nat.zero_add, show min k names.length = k by omega]
        simp only [Option.toList_some, defsF]
        have hb2 := testBit_zero_half s k
        by_cases hb : s / 2 ^ k % 2 = 1
        · rw [decide_eq_true hb] at hb2
          rw [if_pos (decide_eq_true (by omega)), if_pos hb2, chkT (by omega), chkT ⟨by omega, hq⟩, chkT (by omega)]; rfl
        · rw [decide_eq_false hb] at hb2
          rw [if_neg (by rw [decide_eq_false (by omega)]; simp), if_neg (by rw [hb2]; simp), chkT ⟨by omega, hq⟩, chkT (by omega), List.append_nil]; rfl) (by
        rintro x rfl
        rw [List.take_length]
        refine ⟨_, ?_, rfl⟩
        unfold emendref11_Defs_b2
        exact if_neg (by simp))
      rw [g1, Option.bind_some]
      unfold emendref11_Defs_j1
      simp only
      by_cases h : s < 2 ^ names.length
      · rw [Nat.div_eq_of_lt h, if_neg (by decide), if_pos ⟨h8, h0, by omega⟩]
      · have := Nat.div_pos (by omega : 2 ^ names.length ≤ s) (Nat.two_pow_pos _)
        rw [if_pos (decide_eq_true (Int.natCast_pos.2 this)), if_neg (fun e => h (by have := e.2.2; omega))]
    · rw [if_pos (by simp only [Bool.or_eq_true, decide_eq_true_eq]; omega), if_neg (fun e => h0 e.2.1)]
  · rw [if_neg (fun e => h8 e.1), orO_some, Option.bind_some, decide_eq_true (show (8 : Int) < (names.length : Int) by omega), Bool.true_or]
    rfl
/-! ### the set of names -/
def cB (names defs : List Tx) (i : Nat) : Bool := match names[i]? with
  | some y => decide (y ∈ defs) && !decide (y ∈ names.take i)
  | none => false
def setN (names defs : List Tx) : Nat → Nat
  | 0 => 0
  | k + 1 => setN names defs k + (if cB names defs k = true then 2 ^ k else 0)
theorem setN_lt (names defs : List Tx) : ∀ k, setN names defs k < 2 ^ k
  | 0 => by simp [setN]
  | k + 1 => by
    have := setN_lt names defs k
    rw [setN, Nat.pow_succ]
    split <;> omega
theorem setN_bit (names defs : List Tx) (i : Nat) : ∀ k, (setN names defs k).testBit i = (decide (i < k) && cB names defs i)
  | 0 => by simp [setN]
  | k + 1 => by
    have hl := setN_lt names defs k
    have ih := setN_bit names defs i k
    rw [setN]
    by_cases hc : cB names defs k = true
    · rw [if_pos hc, Nat.add_comm]
      rcases Nat.lt_trichotomy i k with h | h | h
      · rw [Nat.testBit_two_pow_add_gt h, ih, decide_eq_true h, decide_eq_true (show i < k + 1 by omega)]
      · subst h
        rw [Nat.testBit_two_pow_add_eq, Nat.testBit_lt_two_pow hl, decide_eq_true (show i < i + 1 by omega), hc]; rfl
      · have : 2 ^ k + setN names defs k < 2 ^ i := by
          have h1 : 2 ^ (k + 1) ≤ 2 ^ i := Nat.pow_le_pow_right (by omega) h
          rw [Nat.pow_succ] at h1; omega
        rw [Nat.testBit_lt_two_pow this, decide_eq_false (show ¬ i < k + 1 by omega)]; rfl
    · rw [if_neg hc, Nat.add_zero, ih]
      by_cases h : i = k
      · subst h; rw [Bool.eq_false_iff.2 hc]; simp
      · by_cases h2 : i < k
        · rw [decide_eq_true h2, decide_eq_true (show i < k + 1 by omega)]
        · rw [decide_eq_false h2, decide_eq_false (show ¬ i < k + 1 by omega)]
theorem index_eq (l : List Tx) (n : Tx) (h : l.length ≤ 2000000) : ∃ r, slices_Index_Lstring_string l n = some r ∧ ((n ∉ l ∧ r = -1) ∨ ∃ k : Nat, r = (k : Int) ∧ l[k]? = some n ∧ n ∉ l.take k) := by
  unfold slices_Index_Lstring_string
  obtain ⟨r, g1, g2⟩ := loopS_ix (f := slices_Index_Lstring_string_b2 l n) l.length (by omega) (fun k x => x = (k : Int) ∧ n ∉ l.take k) (fun r => (r = .inl () ∧ n ∉ l) ∨ ∃ k : Nat, r = .inr (k : Int) ∧ l[k]? = some n ∧ n ∉ l.take k) (s0 := (0 : Int)) ⟨rfl, by simp⟩ (by
    rintro k x hk ⟨rfl, hn⟩
    unfold slices_Index_Lstring_string_b2
    rw [if_pos (decide_eq_true (by omega)), ix_at hk, Option.bind_some]
    by_cases e : n = l[k]
    · right
      rw [if_pos (decide_eq_true e)]
      exact ⟨_, rfl, .inr ⟨k, rfl, by rw [List.getElem?_eq_getElem hk, ← e], hn⟩⟩
    · left
      rw [if_neg (by simpa using e), chkT (by omega)]
      refine ⟨_, rfl, by push_cast; rfl, fun hm => ?_⟩
      rw [List.take_add_one, List.getElem?_eq_getElem hk] at hm
      rcases List.mem_append.1 hm with hm | hm
      · exact hn hm
      · exact e (List.mem_singleton.1 hm)) (by
    rintro x ⟨rfl, hn⟩
    rw [List.take_length] at hn
    refine ⟨.inl (), ?_, .inl ⟨rfl, hn⟩⟩
    unfold slices_Index_Lstring_string_b2
    exact if_neg (by simp))
  rw [g1, Option.bind_some]
  rcases g2 with ⟨rfl, hn⟩ | ⟨k, rfl, h2, h3⟩
  · exact ⟨-1, rfl, .inl ⟨hn, rfl⟩⟩
  · exact ⟨k, rfl, .inr ⟨k, rfl, h2, h3⟩⟩
theorem cB_snoc (names defs : List Tx) (d : Tx) (k : Nat) (h1 : names[k]? = some d) (h2 : d ∉ names.take k) (i : Nat) : cB names (defs ++ [d]) i = (cB names defs i || decide (k = i)) := by
  unfold cB
  cases hi : names[i]? with
  | none =>
    have : k ≠ i := fun e => by subst e; rw [h1] at hi; cases hi
    simp [this]
  | some y =>
    simp only
    by_cases hy : y ∈ names.take i
    · have : k ≠ i := fun e => by
        subst e; rw [h1] at hi; injection hi with hi; subst hi; exact h2 hy
      rw [decide_eq_true hy, decide_eq_false this]; simp
    · rw [decide_eq_false hy]
      by_cases hd : y = d
      · subst hd
        have hki : k = i := by
          have hkl := (List.getElem?_eq_some_iff.1 h1).1
          have hil := (List.getElem?_eq_some_iff.1 hi).1
          rcases Nat.lt_trichotomy k i with h | h | h
          · exact (hy (List.mem_iff_getElem?.2 ⟨k, by rw [List.getElem?_take, if_pos h]; exact h1⟩)).elim
          · exact h
          · exact (h2 (List.mem_iff_getElem?.2 ⟨i, by rw [List.getElem?_take, if_pos h]; exact hi⟩)).elim
        rw [decide_eq_true hki, decide_eq_true (show y ∈ defs ++ [y] by simp)]; simp
      · have hki : k ≠ i := fun e => by subst e; rw [h1] at hi; injection hi with hi; exact hd hi.symm
        have e1 : decide (y ∈ defs ++ [d]) = decide (y ∈ defs) := by rw [decide_eq_decide]; simp [hd]
        rw [e1, decide_eq_false hki]; simp
theorem setN_snoc (names defs : List Tx) (d : Tx) (k n : Nat) (h1 : names[k]? = some d) (h2 : d ∉ names.take k) (hk : k < n) : setN names (defs ++ [d]) n = setN names defs n ||| 2 ^ k := by
  refine Nat.eq_of_testBit_eq fun i => ?_
  rw [Nat.testBit_or, setN_bit, setN_bit, cB_snoc names defs d k h1 h2, Nat.testBit_two_pow]
  by_cases hi : i < n
  · rw [decide_eq_true hi]; simp
  · have : k ≠ i := by omega
    rw [decide_eq_false hi, decide_eq_false this]; rfl
theorem setN_nil (names : List Tx) : ∀ k, setN names [] k = 0
  | 0 => rfl
  | k + 1 => by
    rw [setN, setN_nil names k, if_neg]
    unfold cB
    cases names[k]? <;> simp
def setR (names defs : List Tx) : Int × Int := if 8 < names.length then (0, 1) else if ∀ d ∈ defs, d ∈ names then ((setN names defs names.length : Int), 0) else (0, 60)
theorem set_eq (names defs : List Tx) (hn : names.length ≤ 1000) (hd : defs.length ≤ 1000) : world_Set names defs = some (setR names defs) := by
  unfold world_Set setR
  by_cases h8 : 8 < names.length
  · rw [if_pos (decide_eq_true (by omega)), if_pos h8]
  rw [if_neg (by rw [decide_eq_false (by omega)]; simp), if_neg h8]
  have hp := pow_le8 names.length (by omega)
  obtain ⟨r, g1, g2⟩ := loopS_ix (f := world_Set_b2 names defs) defs.length (by omega) (fun k x => x = ((setN names (defs.take k) names.length : Int), (k : Int)) ∧ ∀ d ∈ defs.take k, d ∈ names) (fun r => (r = .inl (setN names defs names.length : Int) ∧ ∀ d ∈ defs, d ∈ names) ∨ (r = .inr (0, 60) ∧ ¬ ∀ d ∈ defs, d ∈ names)) (s0 := ((0 : Int), (0 : Int))) ⟨by rw [List.take_zero, setN_nil]; rfl, by simp⟩ (by
    rintro k x hk ⟨rfl, hall⟩
    obtain ⟨r, e1, e2⟩ := index_eq names defs[k] (by omega)
    have hc : I64 ((k : Int) + 1) := by omega
    unfold world_Set_b2
    simp only
    rw [if_pos (decide_eq_true (show (k : Int) < (defs.length : Int) by omega)), ix_at hk, Option.bind_some, e1, Option.bind_some]
    rcases e2 with ⟨hm, rfl⟩ | ⟨j, rfl, hj, hj2⟩
    · right
      exact ⟨_, if_pos rfl, .inr ⟨rfl, fun h => hm (h _ (List.getElem_mem hk))⟩⟩
    · left
      have hjl := (List.getElem?_eq_some_iff.1 hj).1
      have hl := setN_lt names (defs.take k) names.length
      have hj2p := pow_le8 j (by omega)
      have htake : defs.take (k + 1) = defs.take k ++ [defs[k]] := by rw [List.take_add_one, List.getElem?_eq_getElem hk]; rfl
      rw [if_neg (by rw [decide_eq_false (by omega)]; simp), chkT (by omega), chkT hc, shl_one j (by omega), bor_nat _ _ (by omega) (by omega), ← setN_snoc names _ _ j _ hj hj2 hjl, ← htake]
      refine ⟨_, rfl, rfl, fun d hd => ?_⟩
      rw [htake] at hd
      rcases List.mem_append.1 hd with hd | hd
      · exact hall d hd
      · rw [List.mem_singleton.1 hd]; exact List.mem_of_getElem? hj) (by
    rintro x ⟨rfl, hall⟩
    rw [List.take_length] at hall ⊢
    refine ⟨_, ?_, .inl ⟨rfl, hall⟩⟩
    unfold world_Set_b2
    exact if_neg (by simp))
  rw [g1, Option.bind_some]
  rcases g2 with ⟨rfl, h⟩ | ⟨rfl, h⟩
  · rw [if_pos h]; rfl
  · rw [if_neg h]
theorem rset_eq (names defs : List Tx) (hn : names.length ≤ 1000) (hd : defs.length ≤ 1000) : emendref11_Set names defs = some (setR names defs) := by
  unfold emendref11_Set setR
  by_cases h8 : 8 < names.length
  · rw [if_pos (decide_eq_true (by omega)), if_pos h8]
  rw [if_neg (by rw [decide_eq_false (by omega)]; simp), if_neg h8]
  have hp := pow_le8 names.length (by omega)
  obtain ⟨r, g1, g2⟩ := loopS_ix (f := emendref11_Set_b2 names defs) defs.length (by omega) (fun k x => x = (k : Int) ∧ ∀ d ∈ defs.take k, d ∈ names) (fun r => (r = .inl () ∧ ∀ d ∈ defs, d ∈ names) ∨ (r = .inr (0, 60) ∧ ¬ ∀ d ∈ defs, d ∈ names)) (s0 := (0 : Int)) ⟨rfl, by simp⟩ (by
    rintro k x hk ⟨rfl, hall⟩
    have hc : I64 ((k : Int) + 1) := by omega
    unfold emendref11_Set_b2
    rw [if_pos (decide_eq_true (show (k : Int) < (defs.length : Int) by omega)), ix_at hk, Option.bind_some, has_eq11 names _ (by omega), Option.bind_some]
    by_cases hm : defs[k] ∈ names
    · left
      rw [if_neg (by rw [decide_eq_true hm]; simp), chkT hc]
      refine ⟨_, rfl, rfl, fun d hd => ?_⟩
      rw [List.take_add_one, List.getElem?_eq_getElem hk] at hd
      rcases List.mem_append.1 hd with hd | hd
      · exact hall d hd
      · rw [List.mem_singleton.1 hd]; exact hm
    · right
      rw [if_pos (by rw [decide_eq_false hm]; rfl)]
      exact ⟨_, rfl, .inr ⟨rfl, fun h => hm (h _ (List.getElem_mem hk))⟩⟩) (by
    rintro x ⟨rfl, hall⟩
    rw [List.take_length] at hall
    refine ⟨.inl (), ?_, .inl ⟨rfl, hall⟩⟩
    unfold emendref11_Set_b2
    exact if_neg (by simp))
  rw [g1, Option.bind_some]
  rcases g2 with ⟨rfl, h⟩ | ⟨rfl, h⟩
  rotate_left
  · rw [if_neg h]
  rw [if_pos h]
  show emendref11_Set_j1 names defs () = _
  unfold emendref11_Set_j1
  obtain ⟨r, g3, rfl⟩ := loopS_ix (f := emendref11_Set_b4 names defs) names.length (by omega) (fun k x => x = ((setN names defs k : Int), (k : Int))) (fun r => r = (setN names defs names.length : Int)) (s0 := ((0 : Int), (0 : Int))) rfl (by
    rintro k x hk rfl
    left
    have hc : I64 ((k : Int) + 1) := by omega
    have hl := setN_lt names defs k
    have hk2 := pow_le8 k (by omega)
    refine ⟨_, ?_, rfl⟩
    unfold emendref11_Set_b4
    simp only
    rw [if_pos (decide_eq_true (show (k : Int) < (names.length : Int) by omega)), ix_at hk, Option.bind_some, has_eq11 defs _ (by omega), Option.bind_some, chkT (by omega), Option.bind_some, Int.toNat_natCast, has_eq11 (names.take k) _ (by rw [List.length_take]; omega), Option.bind_some, andO_some, Option.bind_some, shl_one k (by omega)]
    have hcb : (decide (names[k] ∈ defs) && !decide (names[k] ∈ names.take k)) = cB names defs k := by unfold cB; rw [List.getElem?_eq_getElem hk]
    rw [hcb, setN]
    by_cases hcc : cB names defs k = true
    · rw [if_pos hcc, if_pos hcc, chkT (by omega), chkT (by omega), chkT hc]; rfl
    · rw [if_neg hcc, if_neg hcc, chkT hc]; rfl) (by
    rintro x rfl
    refine ⟨_, ?_, rfl⟩
    unfold emendref11_Set_b4
    exact if_neg (by simp))
  rw [g3]; rfl
theorem worldSets_law (names : List Tx) (set : Int) (defs : List Tx) (h64 : I64 set) : emendlaw11_WorldSets names set defs = some true := by
  unfold emendlaw11_WorldSets
  rw [awake11, Option.bind_some, orO_some, Option.bind_some]
  by_cases h : 100 < names.length ∨ 100 < defs.length
  · rw [if_pos (by rw [Bool.or_eq_true, decide_eq_true_eq, decide_eq_true_eq]; omega)]
  rw [if_neg (by rw [Bool.or_eq_true, decide_eq_true_eq, decide_eq_true_eq]; omega), defs_eq names set (by omega) h64, Option.bind_some, rdefs_eq names set (by omega) h64, Option.bind_some, set_eq names defs (by omega) (by omega), Option.bind_some, rset_eq names defs (by omega) (by omega), Option.bind_some]
  have hl : (defsR names set).1.length ≤ 1000 := by
    unfold defsR
    have := defsF_len set.toNat names 0
    split
    · simp only; omega
    · simp
  rw [same_eq11 _ _ (by omega)]
  simp [andO]
/-! ### what a set defines is that set -/
theorem defsF_mem (s : Nat) (x : Tx) : ∀ (l : List Tx) (i : Nat), x ∈ defsF s i l ↔ ∃ k, l[k]? = some x ∧ s.testBit (i + k) = true
  | [], i => by simp [defsF]
  | n :: r, i => by
    rw [defsF]
    have ih := defsF_mem s x r (i + 1)
    have hsucc : (∃ k, (n :: r)[k]? = some x ∧ s.testBit (i + k) = true) ↔ (n = x ∧ s.testBit i = true) ∨ ∃ k, r[k]? = some x ∧ s.testBit (i + 1 + k) = true := by
      constructor
      · rintro ⟨k, h1, h2⟩
        cases k with
        | zero => left; exact ⟨by simpa using h1, h2⟩
        | succ k => right; exact ⟨k, by simpa using h1, by rw [show i + 1 + k = i + (k + 1) by omega]; exact h2⟩
      · rintro (⟨h1, h2⟩ | ⟨k, h1, h2⟩)
        · exact ⟨0, by simpa using h1, h2⟩
        · exact ⟨k + 1, by simpa using h1, by rw [show i + (k + 1) = i + 1 + k by omega]; exact h2⟩
    rw [hsucc, ← ih]
    by_cases hb : s.testBit i = true
    · rw [if_pos hb, List.mem_cons]
      constructor
      · rintro (rfl | h)
        · exact .inl ⟨rfl, hb⟩
        · exact .inr h
      · rintro (⟨rfl, _⟩ | h)
        · exact .inl rfl
        · exact .inr h
    · rw [if_neg hb]
      constructor
      · exact .inr
      · rintro (⟨_, h⟩ | h)
        · exact (hb h).elim
        · exact h
theorem nodup_at {l : List Tx} (h : l.Nodup) {i k : Nat} {x : Tx} (h1 : l[i]? = some x) (h2 : l[k]? = some x) : i = k := by
  have hi := (List.getElem?_eq_some_iff.1 h1).1
  have hk := (List.getElem?_eq_some_iff.1 h2).1
  have hp := List.pairwise_iff_getElem.1 h
  have e : l[i] = l[k] := by rw [(List.getElem?_eq_some_iff.1 h1).2, (List.getElem?_eq_some_iff.1 h2).2]
  rcases Nat.lt_trichotomy i k with h3 | h3 | h3
  · exact (hp i k hi hk h3 e).elim
  · exact h3
  · exact (hp k i hk hi h3 e.symm).elim
theorem setN_back (names : List Tx) (h : names.Nodup) (s : Nat) (hs : s < 2 ^ names.length) : setN names (defsF s 0 names) names.length = s := by
  refine Nat.eq_of_testBit_eq fun i => ?_
  rw [setN_bit]
  by_cases hi : i < names.length
  · rw [decide_eq_true hi, Bool.true_and]
    unfold cB
    rw [List.getElem?_eq_getElem hi]
    simp only
    have h1 : names[i] ∉ names.take i := by
      intro hm
      obtain ⟨k, hk⟩ := List.mem_iff_getElem?.1 hm
      rw [List.getElem?_take] at hk
      split at hk
      · rename_i hki
        have := nodup_at h hk (List.getElem?_eq_getElem hi); omega
      · cases hk
    rw [decide_eq_false h1, Bool.not_false, Bool.and_true, Bool.eq_iff_iff, decide_eq_true_eq, defsF_mem]
    constructor
    · rintro ⟨k, hk, hb⟩
      have := nodup_at h hk (List.getElem?_eq_getElem hi)
      subst this; rwa [Nat.zero_add] at hb
    · intro hb
      exact ⟨i, List.getElem?_eq_getElem hi, by rwa [Nat.zero_add]⟩
  · have : s < 2 ^ i := Nat.lt_of_lt_of_le hs (Nat.pow_le_pow_right (by omega) (by omega))
    rw [decide_eq_false hi, Nat.testBit_lt_two_pow this]; rfl
theorem worldBack_law (names : List Tx) (set other : Int) (h64 : I64 set) (h642 : I64 other) : emendlaw11_WorldBack names set other = some true := by
  unfold emendlaw11_WorldBack
  rw [awake11, Option.bind_some]
  by_cases h8 : 8 < names.length
  · rw [if_pos (decide_eq_true (by omega))]
  rw [if_neg (by rw [decide_eq_false (by omega)]; simp)]
  obtain ⟨r, g1, g2⟩ := loopS_ix (f := emendlaw11_WorldBack_b2 names true) names.length (by omega) (fun k x => x = (k : Int) ∧ (names.take k).Nodup) (fun r => r = .inr true ∨ (r = .inl () ∧ names.Nodup)) (s0 := (0 : Int)) ⟨rfl, by simp⟩ (by
    rintro k x hk ⟨rfl, hnd⟩
    have hc : I64 ((k : Int) + 1) := by omega
    unfold emendlaw11_WorldBack_b2
    rw [if_pos (decide_eq_true (show (k : Int) < (names.length : Int) by omega))]
    obtain ⟨r, g1, g2⟩ := loopS_ix (f := emendlaw11_WorldBack_b4 names true (k : Int)) k (by omega) (fun j x => x = (j : Int) ∧ names[k] ∉ names.take j) (fun r => r = .inr true ∨ (r = .inl () ∧ names[k] ∉ names.take k)) (s0 := (0 : Int)) ⟨rfl, by simp⟩ (by
      rintro j x hj ⟨rfl, hn⟩
      have hj2 : j < names.length := by omega
      unfold emendlaw11_WorldBack_b4
      rw [if_pos (decide_eq_true (show (j : Int) < (k : Int) by omega)), ix_at hk, Option.bind_some, ix_at hj2, Option.bind_some]
      by_cases e : names[k] = names[j]
      · right
        rw [if_pos (decide_eq_true e)]
        exact ⟨_, rfl, .inl rfl⟩
      · left
        rw [if_neg (by simpa using e), chkT (by omega)]
        refine ⟨_, rfl, by push_cast; rfl, fun hm => ?_⟩
        rw [List.take_add_one, List.getElem?_eq_getElem hj2] at hm
        rcases List.mem_append.1 hm with hm | hm
        · exact hn hm
        · exact e (List.mem_singleton.1 hm)) (by
      rintro x ⟨rfl, hn⟩
      refine ⟨.inl (), ?_, .inr ⟨rfl, hn⟩⟩
      unfold emendlaw11_WorldBack_b4
      exact if_neg (by simp))
    rw [g1, Option.bind_some]
    rcases g2 with rfl | ⟨rfl, hn⟩
    · right; exact ⟨_, rfl, .inl rfl⟩
    · left
      refine ⟨((k + 1 : Nat) : Int), ?_, rfl, ?_⟩
      · show emendlaw11_WorldBack_j3 (k : Int) () = _
        unfold emendlaw11_WorldBack_j3
        rw [chkT hc]; rfl
      · rw [List.take_add_one, List.getElem?_eq_getElem hk]
        refine List.nodup_append.2 ⟨hnd, by simp, fun a ha b hb e => ?_⟩
        rw [show b = names[k] from List.mem_singleton.1 hb] at e
        rw [e] at ha; exact hn ha) (by
    rintro x ⟨rfl, hnd⟩
    rw [List.take_length] at hnd
    refine ⟨.inl (), ?_, .inr ⟨rfl, hnd⟩⟩
    unfold emendlaw11_WorldBack_b2
    exact if_neg (by simp))
  rw [g1, Option.bind_some]
  rcases g2 with rfl | ⟨rfl, hnd⟩
  · rfl
  show emendlaw11_WorldBack_j1 names set other true () = some true
  unfold emendlaw11_WorldBack_j1
  have hp := pow_le8 names.length (by omega)
  rw [defs_eq names set (by omega) h64, Option.bind_some, defs_eq names other (by omega) h642, Option.bind_some, orO_some, Option.bind_some, shl_one names.length (by omega)]
  have c1 : (0 : Int) ≤ (names.length : Int) := by omega
  have hok : ∀ z : Int, (0 ≤ z ∧ z < ((2 ^ names.length : Nat) : Int)) → defsR names z = (defsF z.toNat 0 names, 0) := fun z h => if_pos ⟨by omega, h⟩
  have hno : ∀ z : Int, ¬ (0 ≤ z ∧ z < ((2 ^ names.length : Nat) : Int)) → defsR names z = ([], 1) := fun z h => if_neg (fun e => h e.2)
  have hside : ∀ z : Int, (orO (decide ((defsR names z).2 = 0)) (some (decide (z < 0)))).bind (fun b_3 => (orO b_3 (chk (0 ≤ (names.length : Int)) (some (decide (((2 ^ names.length : Nat) : Int) ≤ z))))).bind fun b_4 => some b_4) = some true := by
    intro z
    rw [orO_some, Option.bind_some, chkT c1, orO_some, Option.bind_some]
    by_cases hz : 0 ≤ z ∧ z < ((2 ^ names.length : Nat) : Int)
    · rw [hok z hz]; rfl
    · congr 1
      simp only [Bool.or_eq_true, decide_eq_true_eq]; omega
  by_cases hz : (0 ≤ set ∧ set < ((2 ^ names.length : Nat) : Int)) ∧ (0 ≤ other ∧ other < ((2 ^ names.length : Nat) : Int))
  · obtain ⟨⟨s, rfl⟩, ⟨o, rfl⟩⟩ : (∃ s : Nat, set = (s : Int)) ∧ (∃ s : Nat, other = (s : Int)) := ⟨⟨set.toNat, by omega⟩, ⟨other.toNat, by omega⟩⟩
    rw [hok _ hz.1, hok _ hz.2, if_neg (by simp), Int.toNat_natCast, Int.toNat_natCast]
    simp only
    have l1 := defsF_len s names 0
    have hall : ∀ d ∈ defsF s 0 names, d ∈ names := fun d hd => by
      obtain ⟨k, hk, _⟩ := (defsF_mem s d names 0).1 hd
      exact List.mem_of_getElem? hk
    have hb := setN_back names hnd s (by omega)
    have hb2 := setN_back names hnd o (by omega)
    rw [set_eq names _ (by omega) (by omega), Option.bind_some, show setR names (defsF s 0 names) = ((s : Int), 0) by unfold setR; rw [if_neg (by omega), if_pos hall, hb], same_eq11 _ _ (by omega)]
    have e : decide (defsF s 0 names = defsF o 0 names) = decide ((s : Int) = (o : Int)) := by
      rw [decide_eq_decide]
      constructor
      · intro e; rw [e, hb2] at hb; omega
      · intro e; rw [show s = o by omega]
    rw [e]
    simp [andO]
  · have hbad : (!decide ((defsR names set).2 = 0) || !decide ((defsR names other).2 = 0)) = true := by
      by_cases h1 : 0 ≤ set ∧ set < ((2 ^ names.length : Nat) : Int)
      · have h2 : ¬ (0 ≤ other ∧ other < ((2 ^ names.length : Nat) : Int)) := fun h => hz ⟨h1, h⟩
        rw [hno other h2]; simp
      · rw [hno set h1]; simp
    rw [if_pos hbad, hside set, show ∀ c, andO true c = c from fun c => rfl, Option.bind_some, show ∀ c, andO true c = c from fun c => rfl, hside other]; rfl
end Go.Sh
