/-
  Plain facts that the laws of layer 1 need: sets and assignments; the names on which a condition hangs.
-/
import Derived.Test.YtkhgiieglpdejaaAwake
set_option linter.unusedVariables false
set_option linter.unusedSimpArgs false
namespace Go.Proofs.Ytkhgiieglpdejaa
open Go Go.Vc Go.Vc.Bdd
attribute [local irreducible] WpC WpOps WpPi WpO Exact TCall VEnds

/-- an assignment, as a set of the first names -/
def num : Nat → Asg → Nat
  | 0, _ => 0
  | k + 1, s => num k s ||| (if s k then 2 ^ k else 0)
theorem num_lt : ∀ (k : Nat) (s : Asg), num k s < 2 ^ k
  | 0, s => by simp [num]
  | k + 1, s => by
    unfold num
    have h := num_lt k s
    have h2 : 2 ^ k < 2 ^ (k + 1) := Nat.pow_lt_pow_right (by omega) (by omega)
    refine Nat.or_lt_two_pow (by omega) ?_
    split <;> omega
theorem num_bit : ∀ (k : Nat) (s : Asg) (i : Nat), (num k s).testBit i = (decide (i < k) && s i)
  | 0, s, i => by simp [num]
  | k + 1, s, i => by
    unfold num
    rw [Nat.testBit_or, num_bit k s i]
    by_cases h : i = k
    · subst h
      cases hs : s i <;> simp
    · have h1 : (if s k then 2 ^ k else 0 : Nat).testBit i = false := by
        split
        · rw [Nat.testBit_two_pow]; simp [Ne.symm h]
        · simp
      rw [h1, Bool.or_false]
      have : (i < k) ↔ (i < k + 1) := by omega
      simp [this]
section
variable {v : Nat} {ds : List Dec} {n m : Nat}
theorem sem_num (w : WF v ds) (hn : n < ds.length) (s : Asg) : sem ds n (asg (num v s)) = sem ds n s :=
  sem_dep w n _ _ (fun i _ hi => by show (num v s).testBit i = s i; rw [num_bit]; simp [hi]) hn
/-- two are one just if they hold for the same sets -/
theorem same_sets (w : WF v ds) (hn : n < ds.length) (hm : m < ds.length) : (∀ k, k < 2 ^ v → semT ds n k = semT ds m k) ↔ n = m := by
  constructor
  · intro h
    refine one_of_same w hn hm fun s => ?_
    rw [← sem_num w hn s, ← sem_num w hm s]
    exact h _ (num_lt v s)
  · rintro rfl k _; rfl
theorem asg_xor (s i : Nat) : asg (s ^^^ 2 ^ i) = upd (asg s) i (!asg s i) := by
  funext j
  show (s ^^^ 2 ^ i).testBit j = _
  rw [Nat.testBit_xor, Nat.testBit_two_pow]
  simp only [upd]
  by_cases h : j = i
  · subst h; simp [asg]
  · rw [if_neg h]; simp [Ne.symm h, asg]
theorem hangs_iff (w : WF v ds) (hn : n < ds.length) {i : Nat} (hi : i < v) : hangs (2 ^ v) (semT ds n) i = true ↔ Hangs ds n i := by
  unfold hangs
  rw [decide_eq_true_eq]
  constructor
  · rintro ⟨s, _, hs⟩
    unfold semT at hs
    rw [asg_xor] at hs
    refine ⟨asg s, fun e => hs ?_⟩
    have e1 : upd (asg s) i (asg s i) = asg s := upd_self _ _
    cases hb : asg s i with
    | true => rw [hb] at e1; simp only [Bool.not_true]; rw [← e, e1]
    | false => rw [hb] at e1; simp only [Bool.not_false]; rw [e, e1]
  · rintro ⟨s, hs⟩
    refine ⟨num v (upd s i true), num_lt _ _, fun e => hs ?_⟩
    unfold semT at e
    rw [sem_num w hn, asg_xor] at e
    rw [e]
    have hb : asg (num v (upd s i true)) i = true := by show (num v _).testBit i = true; rw [num_bit, upd_same]; simp [hi]
    rw [hb]
    refine sem_dep w n _ _ (fun j _ hj => ?_) hn
    simp only [upd]
    by_cases h : j = i
    · simp [h]
    · rw [if_neg h, if_neg h]; show (num v _).testBit j = s j; rw [num_bit]; simp [hj, upd, h]
theorem hangs_lt (w : WF v ds) (hn : n < ds.length) {i : Nat} (h : Hangs ds n i) : i < v := by
  obtain ⟨s, hs⟩ := h
  refine Nat.lt_of_not_le fun hi => hs ?_
  exact sem_dep w n _ _ (fun j _ hj => by simp [upd, show j ≠ i by omega]) hn
theorem onlyOf_bit (N : Nat) (f : Nat → Bool) : ∀ (k i : Nat), (onlyOf N f k).testBit i = (decide (i < k) && hangs N f i)
  | 0, i => by simp [onlyOf]
  | k + 1, i => by
    unfold onlyOf
    by_cases h : i = k
    · subst h
      split
      · rename_i hh; rw [Nat.testBit_or, Nat.testBit_two_pow]; simp [hh]
      · rename_i hh; rw [onlyOf_bit N f i i]; simp [hh]
    · have e : (decide (i < k + 1)) = decide (i < k) := decide_eq_decide.2 (by omega)
      rw [e]
      split
      · rw [Nat.testBit_or, Nat.testBit_two_pow, onlyOf_bit N f k i]; simp [Ne.symm h]
      · exact onlyOf_bit N f k i
theorem only_is (w : WF v ds) (hn : n < ds.length) {set : Nat} (hang : ∀ i, set.testBit i = true ↔ Hangs ds n i) : set = onlyOf (2 ^ v) (semT ds n) v := by
  apply Nat.eq_of_testBit_eq
  intro i
  rw [onlyOf_bit, Bool.eq_iff_iff, hang i]
  constructor
  · intro h
    have hi := hangs_lt w hn h
    simp only [Bool.and_eq_true, decide_eq_true_eq]
    exact ⟨hi, (hangs_iff w hn hi).2 h⟩
  · intro h
    simp only [Bool.and_eq_true, decide_eq_true_eq] at h
    exact (hangs_iff w hn h.1).1 h.2
end
def lfN (f : Nat → Bool) (m : Nat) : Nat := (leastFrom f m 0).getD 0
def lfB (f : Nat → Bool) (m : Nat) : Bool := (leastFrom f m 0).isSome
section
variable {H : Heap} {v : Nat} {ds : List Dec} {g ga c gm : Nat} {es : List (Value × AV)}
theorem bdd_Sat'' (a : InA H v ds g ga c gm es) (hv : v ≤ 8) {n : Nat} (hn : n < ds.length) (hlen : ds.length ≤ 900000) : TCall Try.prog 12 [pA g, iA n] H (fun x H' => x = .tup [iA (lfN (semT ds n) (2 ^ v)), .lit (.bool (lfB (semT ds n) (2 ^ v))), iA 0] ∧ H' = H) noE :=
  (bdd_Sat' a hv hn hlen).mono (fun x H' k => by
    refine ⟨k.1.trans ?_, k.2⟩
    unfold lfN lfB
    cases leastFrom (semT ds n) (2 ^ v) 0 <;> rfl) (fun _ _ k => k)
theorem ref_sat' {n : Nat} {f : Nat → Bool} (hn : n ≤ 256) (H : Heap) : TCall Try.prog 13 [tb n f] H (fun x H' => x = .tup [iA (lfN f n), .lit (.bool (lfB f n))] ∧ H' = H) noE :=
  (ref_sat hn H).mono (fun x H' k => by
    refine ⟨k.1.trans ?_, k.2⟩
    unfold lfN lfB satOf
    cases leastFrom f n 0 <;> rfl) (fun _ _ k => k)
end
theorem meas {n k : Nat} (h : k < n) : n - (k + 1) < n - k := by omega
theorem neq_self (a : Nat) : AV.lit (.bool (!decide ((a : Int) = (a : Int)))) = .lit (.bool false) := by simp
theorem eq_self (a : Nat) : AV.lit (.bool (decide ((a : Int) = (a : Int)))) = .lit (.bool true) := by simp
theorem bneq_self (b : Bool) : AV.lit (.bool (!(b == b))) = .lit (.bool false) := by simp
theorem bdd_Holds' {H : Heap} {v : Nat} {ds : List Dec} {g ga c gm : Nat} {es : List (Value × AV)} (a : InA H v ds g ga c gm es) (hv : v ≤ 8) {n set : Nat} (hn : n < ds.length) (hs : set < 2 ^ v) (hlen : ds.length ≤ 900000) : TCall Try.prog 27 [pA g, iA n, iA set] H (fun x H' => x = .tup [.lit (.bool (semT ds n set)), iA 0] ∧ H' = H) noE :=
  (bdd_Holds a hv (n : Int) (set : Int) hlen).mono (fun x H' k => by
    refine ⟨k.1.trans ?_, k.2⟩
    unfold holdsOf
    rw [if_pos (by omega), if_pos (by omega)]; rfl) (fun _ _ k => k)
theorem row_eq {v : Nat} {ds : List Dec} (w : WF v ds) {n m : Nat} (hn : n < ds.length) (hm : m < ds.length) : AV.lit (.bool (!(sameOf (2 ^ v) (semT ds n) (semT ds m) == decide ((n : Int) = (m : Int))))) = .lit (.bool false) := by
  have : sameOf (2 ^ v) (semT ds n) (semT ds m) = decide ((n : Int) = (m : Int)) := by
    unfold sameOf
    exact decide_eq_decide.2 ((same_sets w hn hm).trans Int.ofNat_inj.symm)
  rw [this]; simp
end Go.Proofs.Ytkhgiieglpdejaa
