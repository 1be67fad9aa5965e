/-
  Pairs that are put into a text, in plain words. No program in sight.
-/
import Derived.Test.YtogbccggnjidpaaDoorA2
set_option linter.unusedVariables false
set_option linter.unusedSimpArgs false
namespace Go.Sh
open Go
def reps (n : Nat) : List UInt8 := Lib.repeatL [92, 10] n
theorem reps_succ (n : Nat) : reps (n + 1) = 92 :: 10 :: reps n := rfl
theorem reps_len : ∀ n, (reps n).length = 2 * n
  | 0 => rfl
  | n + 1 => by rw [reps_succ]; have := reps_len n; simp only [List.length_cons]; omega
theorem reps_end (n : Nat) : reps n ++ [92, 10] = reps (n + 1) := by
  induction n with
  | zero => rfl
  | succ n ih => rw [reps_succ, List.cons_append, List.cons_append, ih]; rfl
def spread (ps : List Int) : Nat → List UInt8 → List UInt8
  | i, [] => reps (ps.count (i : Int))
  | i, c :: r => reps (ps.count (i : Int)) ++ c :: spread ps (i + 1) r
theorem count_len {ps : List Int} {i : Int} : ps.count i ≤ ps.length := List.count_le_length
theorem spread_len (ps : List Int) : ∀ (s : List UInt8) (i : Nat), (spread ps i s).length ≤ s.length + 2 * ps.length * (s.length + 1)
  | [], i => by
    have := count_len (ps := ps) (i := (i : Int))
    simp only [spread, reps_len, List.length_nil]; omega
  | c :: r, i => by
    have h1 := count_len (ps := ps) (i := (i : Int))
    have h2 := spread_len ps r (i + 1)
    simp only [spread, List.length_append, reps_len, List.length_cons]
    have h3 : 2 * ps.length * (r.length + 1 + 1) = 2 * ps.length * (r.length + 1) + 2 * ps.length := by rw [Nat.mul_add]; omega
    omega
theorem spread_bound (ps : List Int) (s : List UInt8) (h1 : ps.length ≤ 50) (h2 : s.length ≤ 2000) (i : Nat) : (spread ps i s).length ≤ 300000 := by
  have h := spread_len ps s i
  have h3 : 2 * ps.length * (s.length + 1) ≤ 100 * 2001 := Nat.mul_le_mul (by omega) (by omega)
  omega

theorem refSpread_eq (s : List UInt8) (ps : List Int) (h1 : ps.length ≤ 50) (h2 : s.length ≤ 2000) : emendref02_Spread s ps = some (spread ps 0 s) := by
  have hb := spread_bound ps s h1 h2 0
  unfold emendref02_Spread
  obtain ⟨r, h, rfl⟩ := loopS_ix (f := emendref02_Spread_b2 s ps) (s.length + 1) (by omega) (fun k x => x.2 = k ∧ (k ≤ s.length → x.1 ++ spread ps k (s.drop k) = spread ps 0 s) ∧ (k = s.length + 1 → x.1 = spread ps 0 s)) (fun r => r = spread ps 0 s) (s0 := (([] : List UInt8), (0 : Int))) ⟨rfl, fun _ => by simp, fun h => by omega⟩ (by
    rintro k ⟨out, i⟩ hk ⟨e1, e2, _⟩
    simp only at e1 e2; subst e1
    left
    have e2 := e2 (by omega)
    have ho : out.length + 2 * ps.count (k : Int) ≤ 300000 ∧ (k < s.length → out.length + 2 * ps.count (k : Int) + 1 ≤ 300000) := by
      have h3 := congrArg List.length e2
      rw [List.length_append] at h3
      by_cases hk2 : k < s.length
      · rw [List.drop_eq_getElem_cons hk2] at h3
        simp only [spread, List.length_append, reps_len, List.length_cons] at h3
        exact ⟨by omega, fun _ => by omega⟩
      · rw [List.drop_eq_nil_of_le (by omega)] at h3
        simp only [spread, reps_len] at h3
        exact ⟨by omega, fun h => absurd h hk2⟩
    obtain ⟨r1, g1, rfl⟩ := loopS_ix (f := emendref02_Spread_b4 ps (k : Int)) ps.length (by omega) (fun j x => x.2 = j ∧ x.1 = out ++ reps ((ps.take j).count (k : Int))) (fun r => r = out ++ reps (ps.count (k : Int))) (s0 := (out, (0 : Int))) ⟨rfl, by simp [reps, Lib.repeatL]⟩ (by
      rintro j ⟨o2, i2⟩ hj ⟨f1, f2⟩
      simp only at f1 f2; subst f1; subst f2
      left
      have ht : ps.take (j + 1) = ps.take j ++ [ps[j]] := by rw [List.take_add_one, List.getElem?_eq_getElem hj]; rfl
      have hc : (ps.take j).count (k : Int) ≤ ps.count (k : Int) := (List.take_sublist _ _).count_le _
      by_cases he : ps[j] = (k : Int)
      · refine ⟨((out ++ reps ((ps.take j).count (k : Int))) ++ [92, 10], (j : Int) + 1), ?_, rfl, ?_⟩
        · unfold emendref02_Spread_b4
          simp only
          rw [ite_t (decide_eq_true (by omega)), bind_of (ix_at hj), ite_t (decide_eq_true he), chk_of (by simp only [List.length_append, reps_len, List.length_cons, List.length_nil]; omega), chk_of (by omega)]
        · simp only
          rw [ht, List.count_append, he, List.append_assoc, reps_end]; simp
      · refine ⟨(out ++ reps ((ps.take j).count (k : Int)), (j : Int) + 1), ?_, rfl, ?_⟩
        · unfold emendref02_Spread_b4
          simp only
          rw [ite_t (decide_eq_true (by omega)), bind_of (ix_at hj), ite_f (decide_eq_false he), chk_of (by omega)]
        · simp only
          rw [ht, List.count_append, List.count_singleton, if_neg (by simpa using he), Nat.add_zero]) (by
      rintro ⟨o2, i2⟩ ⟨f1, f2⟩
      simp only at f1 f2; subst f1; subst f2
      refine ⟨_, ?_, rfl⟩
      unfold emendref02_Spread_b4
      simp only
      rw [ite_f (decide_eq_false (by omega)), List.take_length])
    by_cases hk2 : k < s.length
    · refine ⟨((out ++ reps (ps.count (k : Int))) ++ [s[k]], (k : Int) + 1), ?_, rfl, fun _ => ?_, fun h => by omega⟩
      · unfold emendref02_Spread_b2
        simp only
        rw [ite_t (decide_eq_true (by omega)), bind_of g1]
        unfold emendref02_Spread_j3
        have ht : (s.drop ((k : Int)).toNat).take ((((k : Int) + 1)).toNat - ((k : Int)).toNat) = [s[k]] := by
          rw [Int.toNat_natCast, show (((k : Int) + 1)).toNat - k = 1 by omega, List.drop_eq_getElem_cons hk2]; rfl
        rw [ite_t (decide_eq_true (by omega)), chk_of (by omega), chk_of (by omega), ht, chk_of (by simp only [List.length_append, reps_len, List.length_cons, List.length_nil]; omega), chk_of (by omega)]
      · simp only
        rw [← e2, List.drop_eq_getElem_cons hk2]
        simp [spread]
    · refine ⟨(out ++ reps (ps.count (k : Int)), (k : Int) + 1), ?_, rfl, fun h => by omega, fun _ => ?_⟩
      · unfold emendref02_Spread_b2
        simp only
        rw [ite_t (decide_eq_true (by omega)), bind_of g1]
        unfold emendref02_Spread_j3
        rw [ite_f (decide_eq_false (by omega)), chk_of (by omega)]
      · simp only
        rw [← e2, List.drop_eq_nil_of_le (by omega)]
        rfl) (by
    rintro ⟨out, i⟩ ⟨e1, _, e2⟩
    simp only at e1 e2; subst e1
    refine ⟨out, ?_, e2 trivial⟩
    unfold emendref02_Spread_b2
    simp only
    rw [ite_f (decide_eq_false (by omega))])
  rw [bind_of h]; rfl

theorem charsAt_reps (t : List UInt8) : ∀ (n i : Nat), charsAt i (reps n ++ t) = charsAt (i + 2 * n) t
  | 0, i => by simp [reps, Lib.repeatL]
  | n + 1, i => by
    rw [reps_succ]
    have := charsAt_reps t n (i + 2)
    rw [show i + 2 + 2 * n = i + 2 * (n + 1) by omega] at this
    rw [← this]
    simp [charsAt]
theorem charsAt_cons {c : UInt8} (hc : c ≠ 92) (t : List UInt8) (i : Nat) : charsAt i (c :: t) = ⟨c, i⟩ :: charsAt (i + 1) t := by
  cases t with
  | nil => rfl
  | cons d r => simp only [charsAt, if_neg (fun h : c = 92 ∧ d = 10 => hc h.1)]
theorem charsAt_spread (ps : List Int) : ∀ (s : List UInt8) (i j : Nat), (∀ c ∈ s, c ≠ 92) → (charsAt j (spread ps i s)).map GChar.b = s
  | [], i, j, _ => by
    have := charsAt_reps [] (ps.count (i : Int)) j
    rw [List.append_nil] at this
    simp only [spread, this, charsAt, List.map_nil]
  | c :: r, i, j, h => by
    simp only [spread]
    rw [charsAt_reps, charsAt_cons (h c (by simp)), List.map_cons, charsAt_spread ps r (i + 1) _ (fun c hc => h c (by simp [hc]))]


end Go.Sh
