/-
  ChoiceKeeps, ChoiceWhere, ChoiceTwice in plain words. No program in sight.
-/
import Derived.Test.YtffgaoehhmgbjaaDoorM5
set_option linter.unusedVariables false
set_option linter.unusedSimpArgs false
namespace Go.Sh
open Go Go.Vc.Bdd
theorem keeps_round {v : Nat} (hv : v ≤ 3) {i k : Nat} (hi : i < v) (hk : k < v) (both : Bool) {lists : List (List GTok)} (hl : lists.length = 2 ^ v) (hs : ∀ l ∈ lists, l.length ≤ 100) {b : Bool} {A : GArena} (g : GA A) (hA : A.v = v) {out : List GChoice_CTok} {O : CL} (hrep : Rep A out O) (ho : out.length ≤ 10000)
    (hsel : ∀ n (hn : n < lists.length), sel O (asg n) = if ((n.testBit i && n.testBit k) || (!both && (n.testBit i || n.testBit k))) = true then lists[n] else []) :
    loopS (emendlaw13_ChoiceKeeps_b3 (i : Int) (k : Int) both (lists, b) (out, A)) ((0 : Int), A) = some (.inl ()) := by
  have h8 := pow8 hv
  obtain ⟨r, h1, h2⟩ := loopS_ix (f := emendlaw13_ChoiceKeeps_b3 (i : Int) (k : Int) both (lists, b) (out, A)) lists.length (by omega) (fun t x => x = ((t : Int), A)) (fun r => r = .inl ()) (s0 := ((0 : Int), A)) rfl (by
    rintro t x ht rfl
    left
    have hlt : (t : Int) < ((lists, b).1.length : Int) := by simp only; omega
    have tt : I64 ((t : Int) + 1) := i64_small (by omega) (by omega)
    have hS := select_ok g hrep (by omega) (k := t) (by rw [hA]; omega)
    have hS2 := hsel t ht
    have bi := bit_one t i (by omega) (by omega)
    have bk := bit_one t k (by omega) (by omega)
    have hlen := hs _ (List.getElem_mem ht)
    refine ⟨((t : Int) + 1, A), ?_, by rw [fl_nat]⟩
    unfold emendlaw13_ChoiceKeeps_b3
    simp only
    rw [dT hlt, if_pos rfl, hS, Option.bind_some]
    simp only
    rw [chkB, pk (by omega), chkB, pk (by omega), bi, bk]
    generalize t.testBit i = x at hS2
    generalize t.testBit k = y at hS2
    by_cases hq : ((x && y) || (!both && (x || y))) = true
    · rw [if_pos hq] at hS2
      have e6 : ((andO x (some y)).bind fun b_5 => (orO b_5 ((andO (!both) ((orO x (some y)).bind fun b_8 => some b_8)).bind fun b_7 => some b_7))) = some true := by
        revert hq; cases both <;> cases x <;> cases y <;> simp [andO, orO]
      rw [← Option.bind_assoc, e6, Option.bind_some, andO_true, ix_at ht, Option.bind_some, hS2, rsame_eq _ _ (by omega), Option.bind_some, dT rfl, Bool.not_true, Option.bind_some, orO_false, andO_false, Option.bind_some, Option.bind_some, if_neg (by decide), chkB, pk tt]
    · rw [if_neg hq] at hS2
      have e6 : ((andO x (some y)).bind fun b_5 => (orO b_5 ((andO (!both) ((orO x (some y)).bind fun b_8 => some b_8)).bind fun b_7 => some b_7))) = some false := by
        revert hq; cases both <;> cases x <;> cases y <;> simp [andO, orO]
      rw [← Option.bind_assoc, e6, Option.bind_some, andO_false, Option.bind_some, orO_false, hS2, Bool.not_false, andO_true, List.length_nil, dT (show ((0 : Nat) : Int) = 0 from rfl), Bool.not_true, Option.bind_some, Option.bind_some, if_neg (by decide), chkB, pk tt]) (by
    rintro x rfl
    refine ⟨_, ?_, rfl⟩
    unfold emendlaw13_ChoiceKeeps_b3
    simp only [dF (show ¬ (lists.length : Int) < (lists.length : Int) by omega), Bool.false_eq_true, if_false])
  rw [h1, h2]
theorem keeps_none {A : GArena} (g : GA A) {out : List GChoice_CTok} {L : CL} {q : Asg → Bool} (hrep : Rep A out (keepL L q)) (ho : out.length ≤ 10000) : loopS (emendlaw13_ChoiceKeeps_b5 (out, A)) (0 : Int) = some (.inl ()) := by
  have hlen := hrep.len
  obtain ⟨r, h1, h2⟩ := loopS_ix (f := emendlaw13_ChoiceKeeps_b5 (out, A)) out.length (by omega) (fun t x => x = (t : Int)) (fun r => r = .inl ()) (s0 := (0 : Int)) rfl (by
    rintro t x ht rfl
    left
    have hlt : (t : Int) < ((out, A).1.length : Int) := by simp only; omega
    have tt : I64 ((t : Int) + 1) := i64_small (by omega) (by omega)
    obtain ⟨f1, f2⟩ := hrep.at_ ht (by omega)
    have hne : ¬ out[t].cond = 0 := fun e => by
      obtain ⟨s, hs⟩ := keepL_some L q _ (List.getElem_mem (show t < (keepL L q).length by omega))
      rw [(f2.dec0 g).1 e s] at hs; cases hs
    refine ⟨(t : Int) + 1, ?_, by rw [fl_nat]⟩
    unfold emendlaw13_ChoiceKeeps_b5
    simp only
    rw [dT hlt, if_pos rfl, ix_at ht, Option.bind_some, dF hne, if_neg (by decide), chkB, pk tt]) (by
    rintro x rfl
    refine ⟨_, ?_, rfl⟩
    unfold emendlaw13_ChoiceKeeps_b5
    simp only [dF (show ¬ (out.length : Int) < (out.length : Int) by omega), Bool.false_eq_true, if_false])
  rw [h1, h2]
theorem keeps_j1 {v : Nat} (hv : v ≤ 3) {i k : Nat} (hi : i < v) (hk : k < v) (both : Bool) {lists : List (List GTok)} (hl : lists.length = 2 ^ v) (hs : ∀ l ∈ lists, l.length ≤ 100) {A : GArena} (g : GA A) (hA : A.v = v) {n : Int} {q : Asg → Bool} (hn : Fit A n q)
    (hq : ∀ t : Nat, q (asg t) = ((t.testBit i && t.testBit k) || (!both && (t.testBit i || t.testBit k)))) : emendlaw13_ChoiceKeeps_j1 (i : Int) (k : Int) both true (lists, true) (n, A) = some true := by
  obtain ⟨out, B, m1, m2, m3, M, m4, m5, m6⟩ := merge_new hv lists hl hs g hA
  obtain ⟨kept, C, k1, k2, k3, k4⟩ := keep_ok m2 m4 (hn.ext g m3) (by omega)
  have hkl := keepL_len (mergeL lists M) q
  have := m4.len; have := k4.len
  unfold emendlaw13_ChoiceKeeps_j1
  simp only
  rw [m1, Option.bind_some]
  simp only
  rw [k1, Option.bind_some]
  simp only
  rw [keeps_round hv hi hk both hl hs k2 (k3.v.trans (m3.v.trans hA)) k4 (by omega) (fun n hn => by rw [keepL_sel, hq n, merge_sel m5 hn]), Option.bind_some]
  simp only
  unfold emendlaw13_ChoiceKeeps_j2
  rw [keeps_none k2 k4 (by omega), Option.bind_some]
  rfl
theorem choiceKeeps_law (vars : Int) (texts : List (List UInt8)) (i k : Int) (both : Bool) : emendlaw13_ChoiceKeeps vars texts i k both = some true := by
  unfold emendlaw13_ChoiceKeeps
  rw [awake13, Option.bind_some]
  obtain ⟨r, b, h1, h2⟩ := lists_ok vars texts
  rw [h1, Option.bind_some]
  simp only [orO_some, Option.bind_some]
  by_cases hc : ((((!b || decide (i < 0)) || decide (k < 0)) || decide (vars ≤ i)) || decide (vars ≤ k)) = true
  · rw [if_pos hc]
  · rw [if_neg hc]
    simp only [Bool.or_eq_true, Bool.not_eq_true', decide_eq_true_eq, not_or] at hc
    obtain ⟨⟨⟨⟨c1, c2⟩, c3⟩, c4⟩, c5⟩ := hc
    have hb : b = true := by cases b <;> simp_all
    subst hb
    obtain ⟨v, rfl, hv, hr, hs⟩ := h2 rfl
    have hl : r.length = 2 ^ v := by rw [hr, listsL_len]
    obtain ⟨i, rfl⟩ : ∃ n : Nat, i = (n : Int) := ⟨i.toNat, by omega⟩
    obtain ⟨k, rfl⟩ : ∃ n : Nat, k = (n : Int) := ⟨k.toNat, by omega⟩
    have g := ga_new hv
    obtain ⟨x, A, x1, x2, x3, x4⟩ := fVar g (i := i) (show i < v by omega)
    obtain ⟨y, B, y1, y2, y3, y4⟩ := fVar x2 (i := k) (by rw [x3.v]; show k < v; omega)
    obtain ⟨z, C, z1, z2, z3, z4⟩ := fOr y2 (x4.ext x2 y3) y4
    rw [chkB, pk ⟨by omega, by omega⟩, Int.toNat_natCast, x1, Option.bind_some]
    simp only
    rw [y1, Option.bind_some]
    simp only
    rw [z1, Option.bind_some]
    simp only
    have hC : C.v = v := z3.v.trans (y3.v.trans (x3.v.trans rfl))
    cases both with
    | false =>
      rw [if_neg (by decide)]
      exact keeps_j1 hv (by omega) (by omega) false hl hs z2 hC z4 fun t => by
        show (t.testBit i || t.testBit k) = _
        cases t.testBit i <;> cases t.testBit k <;> rfl
    | true =>
      obtain ⟨w, D, w1, w2, w3, w4⟩ := fAnd z2 (x4.ext x2 (y3.trans z3)) (y4.ext y2 z3)
      rw [if_pos rfl, w1, Option.bind_some]
      exact keeps_j1 hv (by omega) (by omega) true hl hs w2 (w3.v.trans hC) w4 fun t => by
        show (t.testBit i && t.testBit k) = _
        cases t.testBit i <;> cases t.testBit k <;> rfl
/-! ### kept twice -/
theorem keep_twice (L : CL) (p q : Asg → Bool) : keepL (keepL L p) q = keepL L (fun s => p s && q s) := by
  induction L with
  | nil => unfold keepL; simp
  | cons x L ih =>
    rw [show x :: L = [x] ++ L from rfl, keepL_append, keepL_append, keepL_append, ih]
    congr 1
    by_cases h : ∃ s, (x.2 s && (p s && q s)) = true
    · obtain ⟨s, hs⟩ := h
      have hs' : ((x.2 s && p s) && q s) = true := by rw [Bool.and_assoc]; exact hs
      have h1 : ∃ s, (x.2 s && p s) = true := ⟨s, by revert hs'; cases x.2 s <;> cases p s <;> simp⟩
      rw [keepL_one x p h1, keepL_one _ q ⟨s, hs'⟩, keepL_one x _ ⟨s, hs⟩]
      simp only [Bool.and_assoc]
    · rw [keepL_none x _ h]
      by_cases h1 : ∃ s, (x.2 s && p s) = true
      · rw [keepL_one x p h1, keepL_none _ q]
        rintro ⟨s, hs⟩
        exact h ⟨s, by rw [← Bool.and_assoc]; exact hs⟩
      · rw [keepL_none x p h1]; rfl
theorem rep_same {A : GArena} (g : GA A) : ∀ {a b : List GChoice_CTok} {L : CL}, Rep A a L → Rep A b L → a = b
  | [], [], _, _, _ => rfl
  | [], y :: b, [], _, k => (show False from k).elim
  | [], y :: b, p :: L, h, _ => (show False from h).elim
  | x :: a, [], [], h, _ => (show False from h).elim
  | x :: a, [], p :: L, _, k => (show False from k).elim
  | x :: a, y :: b, [], h, _ => (show False from h).elim
  | x :: a, y :: b, p :: L, h, k => by
    rw [rep_same g h.2.2 k.2.2]
    have e1 : x.t = y.t := h.1.trans k.1.symm
    have e2 : x.cond = y.cond := h.2.1.inj g k.2.1 fun s => rfl
    cases x; cases y; simp only at e1 e2; rw [e1, e2]
theorem keepL_congr (L : CL) {p q : Asg → Bool} (h : ∀ s, p s = q s) : keepL L p = keepL L q := by rw [show p = q from funext h]
theorem twice_loop (a : List GChoice_CTok) (A B C : GArena) (ha : a.length ≤ 10000) : loopS (emendlaw13_ChoiceTwice_b2 (a, A) (a, B) (a, C)) (0 : Int) = some (.inl ()) := by
  obtain ⟨r, h1, h2⟩ := loopS_ix (f := emendlaw13_ChoiceTwice_b2 (a, A) (a, B) (a, C)) a.length (by omega) (fun t x => x = (t : Int)) (fun r => r = .inl ()) (s0 := (0 : Int)) rfl (by
    rintro t x ht rfl
    left
    have hlt : (t : Int) < ((a, A).1.length : Int) := by simp only; omega
    have tt : I64 ((t : Int) + 1) := i64_small (by omega) (by omega)
    refine ⟨(t : Int) + 1, ?_, by rw [fl_nat]⟩
    unfold emendlaw13_ChoiceTwice_b2
    rw [chkB]
    simp only [ix_at ht, Option.bind_some, orO_some]
    rw [dT hlt, if_pos rfl, if_neg (by simp), pk tt]) (by
    rintro x rfl
    refine ⟨_, ?_, rfl⟩
    unfold emendlaw13_ChoiceTwice_b2
    simp only [dF (show ¬ (a.length : Int) < (a.length : Int) by omega), Bool.false_eq_true, if_false])
  rw [h1, h2]
theorem choiceTwice_law (vars : Int) (texts : List (List UInt8)) (i k : Int) : emendlaw13_ChoiceTwice vars texts i k = some true := by
  unfold emendlaw13_ChoiceTwice
  rw [awake13, Option.bind_some]
  obtain ⟨r, b, h1, h2⟩ := lists_ok vars texts
  rw [h1, Option.bind_some]
  simp only [orO_some, Option.bind_some]
  by_cases hc : ((((!b || decide (i < 0)) || decide (k < 0)) || decide (vars ≤ i)) || decide (vars ≤ k)) = true
  · rw [if_pos hc]
  · rw [if_neg hc]
    simp only [Bool.or_eq_true, Bool.not_eq_true', decide_eq_true_eq, not_or] at hc
    obtain ⟨⟨⟨⟨c1, c2⟩, c3⟩, c4⟩, c5⟩ := hc
    have hb : b = true := by cases b <;> simp_all
    subst hb
    obtain ⟨v, rfl, hv, hr, hs⟩ := h2 rfl
    have hl : r.length = 2 ^ v := by rw [hr, listsL_len]
    obtain ⟨i, rfl⟩ : ∃ n : Nat, i = (n : Int) := ⟨i.toNat, by omega⟩
    obtain ⟨k, rfl⟩ : ∃ n : Nat, k = (n : Int) := ⟨k.toNat, by omega⟩
    have g := ga_new hv
    obtain ⟨x, A, x1, x2, x3, x4⟩ := fVar g (i := i) (show i < v by omega)
    obtain ⟨y, B, y1, y2, y3, y4⟩ := fVar x2 (i := k) (by rw [x3.v]; show k < v; omega)
    obtain ⟨z, C, z1, z2, z3, z4⟩ := fAnd y2 (x4.ext x2 y3) y4
    have hC : C.v = v := z3.v.trans (y3.v.trans (x3.v.trans rfl))
    obtain ⟨out, D, m1, m2, m3, M, m4, m5, m6⟩ := merge_new hv r hl hs z2 hC
    have xD := x4.ext x2 (y3.trans (z3.trans m3))
    have yD := y4.ext y2 (z3.trans m3)
    have zD := z4.ext z2 m3
    have hol := m4.len
    obtain ⟨k1, E1, a1, a2, a3, a4⟩ := keep_ok m2 m4 xD (by omega)
    have hk1 := a4.len
    have hk1' := keepL_len (mergeL r M) (fun s => s i)
    obtain ⟨k2, E2, b1, b2, b3, b4⟩ := keep_ok a2 a4 (yD.ext m2 a3) (by omega)
    obtain ⟨k3, E3, d1, d2, d3, d4⟩ := keep_ok b2 (m4.ext m2 (a3.trans b3)) (yD.ext m2 (a3.trans b3)) (by omega)
    have hk3 := d4.len
    have hk3' := keepL_len (mergeL r M) (fun s => s k)
    obtain ⟨k4, E4, e1, e2, e3, e4⟩ := keep_ok d2 d4 (xD.ext m2 (a3.trans (b3.trans d3))) (by omega)
    obtain ⟨k5, E5, f1, f2, f3, f4⟩ := keep_ok e2 (m4.ext m2 (a3.trans (b3.trans (d3.trans e3)))) (zD.ext m2 (a3.trans (b3.trans (d3.trans e3)))) (by omega)
    have r2 := b4.ext b2 (d3.trans (e3.trans f3))
    have r4 := e4.ext e2 f3
    rw [keep_twice] at r2 r4
    have q24 : k4 = k2 := rep_same f2 r4 (by rw [keepL_congr (p := fun s => s k && s i) (q := fun s => s i && s k) _ (fun s => Bool.and_comm ..)]; exact r2)
    have q25 : k5 = k2 := rep_same f2 f4 r2
    subst q24; subst q25
    have hk5 := f4.len
    have hk5' := keepL_len (mergeL r M) (fun s => s i && s k)
    rw [chkB, pk ⟨by omega, by omega⟩, Int.toNat_natCast, x1, Option.bind_some]
    simp only
    rw [y1, Option.bind_some]
    simp only
    rw [z1, Option.bind_some]
    simp only
    rw [m1, Option.bind_some]
    simp only
    rw [a1, Option.bind_some]
    simp only
    rw [b1, Option.bind_some]
    simp only
    rw [d1, Option.bind_some]
    simp only
    rw [e1, Option.bind_some]
    simp only
    rw [f1, Option.bind_some]
    simp only
    rw [if_neg (by simp), twice_loop _ _ _ _ (by omega), Option.bind_some]
    rfl
end Go.Sh
