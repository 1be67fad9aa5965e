/-
  Arenas by what their nodes mean. No program in sight.
-/
import Derived.Test.YtffgaoehhmgbjaaDoorBf
import Derived.Test.YtffgaoehhmgbjaaDoorT
import Derived.Test.YtffgaoehhmgbjaaDoorAm
set_option linter.unusedVariables false
set_option linter.unusedSimpArgs false
namespace Go.Sh
open Go Go.Vc.Bdd
theorem i64_small {k : Int} (h1 : -9000000000000000000 ≤ k) (h2 : k ≤ 9000000000000000000) : I64 k := by unfold I64; omega
theorem fl_nat (k : Nat) : ((k : Int) + 1) = ((k + 1 : Nat) : Int) := by omega
theorem dT {p : Prop} [Decidable p] (h : p) : decide p = true := decide_eq_true h
theorem dF {p : Prop} [Decidable p] (h : ¬ p) : decide p = false := decide_eq_false h
/-! ### numbers as sets -/
theorem wrap_id (k : Int) (h : 0 ≤ k) (h2 : k < 9223372036854775808) : IntKind.wrap .i64 k = k := by
  simp only [IntKind.wrap, IntKind.bits, IntKind.signed]; simp; omega
theorem shl_one (n : Nat) (h : n ≤ 8) : shl 1 n = ((2 ^ n : Nat) : Int) := by
  have : n = 0 ∨ n = 1 ∨ n = 2 ∨ n = 3 ∨ n = 4 ∨ n = 5 ∨ n = 6 ∨ n = 7 ∨ n = 8 := by omega
  rcases this with rfl | rfl | rfl | rfl | rfl | rfl | rfl | rfl | rfl <;> decide
theorem shr_nat (s n : Nat) (h : n ≤ 8) : shr s n = ((s / 2 ^ n : Nat) : Int) := by
  unfold shr
  rw [show min ((n : Int).toNat) (IntKind.bits .i64) = n by rw [Int.toNat_natCast]; show min n 64 = n; omega]
  rw [Int.fdiv_eq_ediv_of_nonneg _ (by exact_mod_cast Nat.zero_le _)]
  push_cast; rfl
theorem bv_nat (a : Nat) (h : a < 9223372036854775808) : (BitVec.ofInt 64 (a : Int)).toNat = a := by
  rw [BitVec.toNat_ofInt]; omega
theorem band_nat (a b : Nat) (ha : a < 9223372036854775808) (hb : b < 9223372036854775808) : band a b = ((a &&& b : Nat) : Int) := by
  unfold band
  have e : (BitVec.ofInt (IntKind.bits .i64) (a : Int) &&& BitVec.ofInt (IntKind.bits .i64) (b : Int)).toNat = a &&& b := by
    show (BitVec.ofInt 64 (a : Int) &&& BitVec.ofInt 64 (b : Int)).toNat = _
    rw [BitVec.toNat_and, bv_nat a ha, bv_nat b hb]
  rw [e]
  have := Nat.and_le_left (n := a) (m := b)
  exact wrap_id _ (by omega) (by omega)
theorem bit_one (s n : Nat) (h : n ≤ 8) (hs : s < 9223372036854775808) : decide (band (shr s n) 1 = 1) = s.testBit n := by
  rw [shr_nat s n h]
  have hd : s / 2 ^ n ≤ s := Nat.div_le_self _ _
  rw [show (1 : Int) = ((1 : Nat) : Int) from rfl, band_nat _ 1 (by omega) (by omega), Nat.and_one_is_mod, Nat.testBit_eq_decide_div_mod_eq]
  rw [decide_eq_decide]; omega
theorem bit_zero (s n : Nat) (h : n ≤ 8) (hs : s < 9223372036854775808) : decide (band (shr s n) 1 = 0) = !s.testBit n := by
  rw [shr_nat s n h]
  have hd : s / 2 ^ n ≤ s := Nat.div_le_self _ _
  rw [show (1 : Int) = ((1 : Nat) : Int) from rfl, band_nat _ 1 (by omega) (by omega), Nat.and_one_is_mod, Nat.testBit_eq_decide_div_mod_eq]
  have : s / 2 ^ n % 2 = 0 ∨ s / 2 ^ n % 2 = 1 := by omega
  rcases this with e | e <;> rw [e] <;> rfl
/-! ### arenas of few names -/
structure GA (A : GArena) : Prop where
  wf : WF A.v A.ds
  v3 : A.v ≤ 3
/-- what belongs to one set alone -/
def asg (n : Nat) : Asg := fun i => n.testBit i
theorem nodup_le : ∀ (N : Nat) (l : List Nat), l.Nodup → (∀ x ∈ l, x < N) → l.length ≤ N
  | 0, l, _, h => by
    cases l with
    | nil => exact Nat.le_refl _
    | cons a l => exact absurd (h a (List.mem_cons_self ..)) (Nat.not_lt_zero _)
  | N + 1, l, hn, h => by
    have h1 := nodup_le N (l.erase N) (hn.erase N) (fun x hx => by
      obtain ⟨h2, h3⟩ := (hn.mem_erase_iff).1 hx
      have := h x h3; omega)
    have h2 := List.length_erase (a := N) (l := l)
    split at h2 <;> omega
def code (v : Nat) (p : Asg → Bool) : Nat → Nat
  | 0 => 0
  | k + 1 => 2 * code v p k + (p (asg k)).toNat
theorem code_lt (v : Nat) (p : Asg → Bool) : ∀ k, code v p k < 2 ^ k
  | 0 => by unfold code; omega
  | k + 1 => by
    have := code_lt v p k
    unfold code
    have : (p (asg k)).toNat ≤ 1 := Bool.toNat_le _
    rw [Nat.pow_succ]; omega
theorem code_inj (v : Nat) (p q : Asg → Bool) : ∀ k, code v p k = code v q k → ∀ j, j < k → p (asg j) = q (asg j)
  | 0, _, j, hj => absurd hj (Nat.not_lt_zero _)
  | k + 1, h, j, hj => by
    unfold code at h
    have h1 : (p (asg k)).toNat ≤ 1 := Bool.toNat_le _
    have h2 : (q (asg k)).toNat ≤ 1 := Bool.toNat_le _
    by_cases e : j = k
    · subst e
      have : (p (asg j)).toNat = (q (asg j)).toNat := by omega
      cases hp : p (asg j) <;> cases hq : q (asg j) <;> rw [hp, hq] at this <;> first | rfl | (exfalso; revert this; decide)
    · exact code_inj v p q k (by omega) j (by omega)
/-- a set of names below v, as a number -/
def numOf (s : Asg) : Nat → Nat
  | 0 => 0
  | k + 1 => (if s k then 2 ^ k else 0) + numOf s k
theorem numOf_lt (s : Asg) : ∀ k, numOf s k < 2 ^ k
  | 0 => by unfold numOf; omega
  | k + 1 => by
    have := numOf_lt s k
    unfold numOf
    rw [Nat.pow_succ]; split <;> omega
theorem numOf_bit (s : Asg) : ∀ k i, i < k → (numOf s k).testBit i = s i
  | 0, i, h => absurd h (Nat.not_lt_zero _)
  | k + 1, i, h => by
    have hlt := numOf_lt s k
    unfold numOf
    by_cases e : i = k
    · subst e
      cases hs : s i with
      | true =>
        simp only [if_true]
        rw [Nat.testBit_two_pow_add_eq, Nat.testBit_lt_two_pow hlt]; rfl
      | false =>
        simp only [Bool.false_eq_true, if_false, Nat.zero_add]
        exact Nat.testBit_lt_two_pow hlt
    · have ih := numOf_bit s k i (by omega)
      split
      · rw [Nat.testBit_two_pow_add_gt (by omega)]; exact ih
      · rw [Nat.zero_add]; exact ih
/-- what is so for every set is so -/
theorem all_sets {A : GArena} (g : GA A) {n m : Nat} (hn : n < A.ds.length) (hm : m < A.ds.length) (h : ∀ k, k < 2 ^ A.v → sem A.ds n (asg k) = sem A.ds m (asg k)) : n = m := by
  refine one_of_same g.wf hn hm fun s => ?_
  have e1 : ∀ n, n < A.ds.length → sem A.ds n s = sem A.ds n (asg (numOf s A.v)) := fun n hn => sem_dep g.wf n _ _ (fun i _ hi => (numOf_bit s A.v i hi).symm) hn
  rw [e1 n hn, e1 m hm]
  exact h _ (numOf_lt s A.v)
theorem ga_len {A : GArena} (g : GA A) : A.ds.length ≤ 256 := by
  have h := nodup_le (2 ^ 2 ^ A.v) ((List.range A.ds.length).map fun n => code A.v (sem A.ds n) (2 ^ A.v)) (by
    unfold List.Nodup
    rw [List.pairwise_map]
    refine List.Pairwise.imp_of_mem ?_ (List.nodup_range (n := A.ds.length))
    intro a b ha hb hne he
    exact hne (all_sets g (List.mem_range.1 ha) (List.mem_range.1 hb) (code_inj A.v _ _ _ he))) (fun x hx => by obtain ⟨n, _, rfl⟩ := List.mem_map.1 hx; exact code_lt _ _ _)
  rw [List.length_map, List.length_range] at h
  have h3 := g.v3
  have : A.v = 0 ∨ A.v = 1 ∨ A.v = 2 ∨ A.v = 3 := by omega
  rcases this with e | e | e | e <;> rw [e] at h <;> exact Nat.le_trans h (by decide)
/-- a node means what is so -/
def Fit (A : GArena) (c : Int) (p : Asg → Bool) : Prop := ∃ n : Nat, c = (n : Int) ∧ n < A.ds.length ∧ ∀ s, sem A.ds n s = p s
structure AExt (A B : GArena) : Prop where
  v : B.v = A.v
  ext : Ext A.ds B.ds
theorem AExt.refl (A : GArena) : AExt A A := ⟨rfl, .refl _⟩
theorem AExt.trans {A B C : GArena} (h : AExt A B) (k : AExt B C) : AExt A C := ⟨k.v.trans h.v, h.ext.trans k.ext⟩
theorem Fit.ext {A B : GArena} {c : Int} {p : Asg → Bool} (g : GA A) (h : Fit A c p) (e : AExt A B) : Fit B c p := by
  obtain ⟨n, rfl, h1, h2⟩ := h
  exact ⟨n, rfl, Nat.lt_of_lt_of_le h1 e.ext.len, fun s => by rw [e.ext.sem g.wf n s h1]; exact h2 s⟩
theorem Fit.zero {A : GArena} (g : GA A) : Fit A 0 (fun _ => false) := ⟨0, rfl, by have := g.wf.two; omega, fun s => rfl⟩
theorem Fit.one {A : GArena} (g : GA A) : Fit A 1 (fun _ => true) := ⟨1, rfl, by have := g.wf.two; omega, fun s => rfl⟩
theorem Fit.inj {A : GArena} (g : GA A) {c d : Int} {p q : Asg → Bool} (h : Fit A c p) (k : Fit A d q) (e : ∀ s, p s = q s) : c = d := by
  obtain ⟨n, rfl, h1, h2⟩ := h
  obtain ⟨m, rfl, k1, k2⟩ := k
  rw [one_of_same g.wf h1 k1 fun s => by rw [h2, k2]; exact e s]
theorem Fit.same {A : GArena} {c : Int} {p q : Asg → Bool} (h : Fit A c p) (k : Fit A c q) (s : Asg) : p s = q s := by
  obtain ⟨n, e, h1, h2⟩ := h
  obtain ⟨m, e', k1, k2⟩ := k
  have : n = m := by omega
  subst this
  rw [← h2, ← k2]
theorem Fit.dec0 {A : GArena} (g : GA A) {c : Int} {p : Asg → Bool} (h : Fit A c p) : c = 0 ↔ ∀ s, p s = false :=
  ⟨fun e s => by subst e; exact h.same (Fit.zero g) s, fun e => h.inj g (Fit.zero g) e⟩
theorem Fit.dec1 {A : GArena} (g : GA A) {c : Int} {p : Asg → Bool} (h : Fit A c p) : c = 1 ↔ ∀ s, p s = true :=
  ⟨fun e s => by subst e; exact h.same (Fit.one g) s, fun e => h.inj g (Fit.one g) e⟩
theorem Fit.congr {A : GArena} {c : Int} {p q : Asg → Bool} (h : Fit A c p) (e : ∀ s, p s = q s) : Fit A c q := by
  obtain ⟨n, h0, h1, h2⟩ := h
  exact ⟨n, h0, h1, fun s => (h2 s).trans (e s)⟩
theorem Fit.fit {A : GArena} {c : Int} {p : Asg → Bool} (h : Fit A c p) : A.fit c := by
  obtain ⟨n, rfl, h1, _⟩ := h
  exact ⟨by omega, by omega⟩
theorem bothG_ok {op : Bool → Bool → Bool} {rl : Nat → Nat → Option Nat} (R : RuleP op rl) {A : GArena} (g : GA A) {n m : Nat} (hn : n < A.ds.length) (hm : m < A.ds.length) :
    ∃ r B, bothG rl A n m = some (r, B) ∧ GA B ∧ AExt A B ∧ Fit B (r : Int) (fun s => op (sem A.ds n s) (sem A.ds m s)) := by
  obtain ⟨r, ds', f', h1, h2, h3, h4, h5, h6⟩ := work_ok R A.v n m A.ds (fun _ => none) hn hm (by omega) g.wf (fun n m r h => by cases h)
  refine ⟨r, ⟨A.v, ds'⟩, ?_, ⟨h2, g.v3⟩, ⟨rfl, h3⟩, r, rfl, h4.hr, fun s => ?_⟩
  · unfold bothG; rw [h1]; rfl
  · rw [h4.hsem, h3.sem g.wf n s hn, h3.sem g.wf m s hm]
theorem fAnd {A : GArena} (g : GA A) {c d : Int} {p q : Asg → Bool} (h : Fit A c p) (k : Fit A d q) : ∃ r B, bdd_And A c d = some ((r, 0), B) ∧ GA B ∧ AExt A B ∧ Fit B r (fun s => p s && q s) := by
  have hf := h.fit; have kf := k.fit
  obtain ⟨n, rfl, h1, h2⟩ := h
  obtain ⟨m, rfl, k1, k2⟩ := k
  obtain ⟨r, B, e1, e2, e3, e4⟩ := bothG_ok and_ruleP g h1 k1
  refine ⟨r, B, ?_, e2, e3, e4.congr fun s => by rw [h2, k2]⟩
  unfold bdd_And
  rw [chkB, pk ⟨by have := g.v3; omega, by have := ga_len g; omega, hf, kf⟩, Int.toNat_natCast, Int.toNat_natCast, e1]; rfl
theorem fNot {A : GArena} (g : GA A) {c : Int} {p : Asg → Bool} (h : Fit A c p) : ∃ r B, bdd_Not A c = some ((r, 0), B) ∧ GA B ∧ AExt A B ∧ Fit B r (fun s => !p s) := by
  have hf := h.fit
  obtain ⟨n, rfl, h1, h2⟩ := h
  obtain ⟨r, B, e1, e2, e3, e4⟩ := bothG_ok xor_ruleP g h1 (m := 1) (by have := g.wf.two; omega)
  refine ⟨r, B, ?_, e2, e3, e4.congr fun s => by rw [h2, sem_one]; cases p s <;> rfl⟩
  unfold bdd_Not
  rw [chkB, pk ⟨by have := g.v3; omega, by have := ga_len g; omega, hf⟩, Int.toNat_natCast, e1]; rfl
theorem fOr {A : GArena} (g : GA A) {c d : Int} {p q : Asg → Bool} (h : Fit A c p) (k : Fit A d q) : ∃ r B, bdd_Or A c d = some ((r, 0), B) ∧ GA B ∧ AExt A B ∧ Fit B r (fun s => p s || q s) := by
  have hf := h.fit; have kf := k.fit
  obtain ⟨n, rfl, h1, h2⟩ := h
  obtain ⟨m, rfl, k1, k2⟩ := k
  obtain ⟨r1, B1, e1, g1, x1, f1⟩ := bothG_ok xor_ruleP g h1 k1
  have h1' := Nat.lt_of_lt_of_le h1 x1.ext.len
  have k1' := Nat.lt_of_lt_of_le k1 x1.ext.len
  obtain ⟨r2, B2, e2, g2, x2, f2⟩ := bothG_ok and_ruleP g1 h1' k1'
  have f1' := f1.ext g1 x2
  obtain ⟨n1, en, l1, s1⟩ := f1'
  obtain ⟨n2, em, l2, s2⟩ := f2
  have : n1 = r1 := by omega
  subst this
  have : n2 = r2 := by omega
  subst this
  obtain ⟨r3, B3, e3, g3, x3, f3⟩ := bothG_ok xor_ruleP g2 l1 l2
  refine ⟨r3, B3, ?_, g3, x1.trans (x2.trans x3), f3.congr fun s => ?_⟩
  · unfold bdd_Or
    rw [chkB, pk ⟨by have := g.v3; omega, by have := ga_len g; omega, hf, kf⟩, Int.toNat_natCast, Int.toNat_natCast, e1, Option.bind_some, e2, Option.bind_some, e3]; rfl
  · rw [s1, s2]
    show ((sem A.ds n s ^^ sem A.ds m s) ^^ (sem B1.ds n s && sem B1.ds m s)) = (p s || q s)
    rw [x1.ext.sem g.wf n s h1, x1.ext.sem g.wf m s k1, h2, k2]
    cases p s <;> cases q s <;> rfl
theorem fVar {A : GArena} (g : GA A) {i : Nat} (hi : i < A.v) : ∃ r B, bdd_Var A (i : Int) = some ((r, 0), B) ∧ GA B ∧ AExt A B ∧ Fit B r (fun s => s i) := by
  have h2 := g.wf.two
  obtain ⟨w, x, lt, ln, hn, hs⟩ := made_good g.wf (name := i) (off := 0) (on := 1) ⟨by omega, by omega, hi, by rw [nm_low g.wf (by omega)]; exact hi, by rw [nm_low g.wf (by omega)]; exact hi⟩
  refine ⟨((madeOf A.ds ⟨i, 0, 1⟩).1 : Int), ⟨A.v, (madeOf A.ds ⟨i, 0, 1⟩).2⟩, ?_, ⟨w, g.v3⟩, ⟨rfl, x⟩, _, rfl, lt, fun s => ?_⟩
  · unfold bdd_Var
    rw [chkB, pk ⟨by have := g.v3; omega, by have := ga_len g; omega, by omega, by omega⟩, Int.toNat_natCast]
  · rw [hs, sem_one, sem_zero]; show _ = s i; cases s i <;> rfl
theorem fHolds {A : GArena} (g : GA A) {c : Int} {p : Asg → Bool} (h : Fit A c p) {k : Nat} (hk : k < 2 ^ A.v) : bdd_Holds A c (k : Int) = some ((p (asg k), 0), A) := by
  have hf := h.fit
  obtain ⟨n, rfl, h1, h2⟩ := h
  unfold bdd_Holds
  rw [chkB, pk ⟨by have := g.v3; omega, by have := ga_len g; omega, hf, by omega, by omega⟩, Int.toNat_natCast, Int.toNat_natCast]
  have := h2 (asg k)
  rw [← this]; rfl
theorem ga_new {v : Nat} (h : v ≤ 3) : GA (newG v) := by
  have key : ∀ n d, 2 ≤ n → (newG v).ds[n]? = some d → False := fun n d hn hd => by
    rw [List.getElem?_eq_none (show (newG v).ds.length ≤ n from hn)] at hd
    cases hd
  exact ⟨⟨rfl, rfl, fun n d hn hd => (key n d hn hd).elim, fun i j d hi hj h1 h2 => (key i d hi h1).elim⟩, h⟩
end Go.Sh
