/-
  What bytes take up; where each byte stands. No program in sight.
-/
import Derived.Test.YtogbccggnjidpaaQ1
set_option linter.unusedVariables false
set_option linter.unusedSimpArgs false
namespace Go.Sh
open Go
def atOf (l : List GChar) (n : Nat) : Int := ((l[n]?).map GChar.at_).getD 0
theorem atOf_at {l : List GChar} {k : Nat} (h : k < l.length) : atOf l k = l[k].at_ := by unfold atOf; rw [List.getElem?_eq_getElem h]; rfl
def spanV (t : List UInt8) (a b : Int) : Int × Int × Int :=
  if a < 0 ∨ b < a ∨ ((charsAt 0 t).length : Int) < b then (0, 0, 20)
  else if a = (charsAt 0 t).length then ((t.length : Int), (t.length : Int), 0)
  else if a = b then (atOf (charsAt 0 t) a.toNat, atOf (charsAt 0 t) a.toNat, 0)
  else (atOf (charsAt 0 t) a.toNat, atOf (charsAt 0 t) (b - 1).toNat + 1, 0)
theorem ix_int {α : Type} {l : List α} {n : Int} (h0 : 0 ≤ n) (h : n.toNat < l.length) : ix l n = some l[n.toNat] := by unfold ix; rw [if_pos h0]; exact List.getElem?_eq_getElem h

theorem charsAt_get : ∀ (s : List UInt8) (i k : Nat) (x : GChar), (charsAt i s)[k]? = some x → ∃ p : Nat, x.at_ = p ∧ i ≤ p ∧ s[p - i]? = some x.b
  | [], i, k, x, h => by simp [charsAt] at h
  | [c], i, k, x, h => by
    cases k with
    | zero => simp [charsAt] at h; subst h; exact ⟨i, rfl, Nat.le_refl _, by simp⟩
    | succ k => simp [charsAt] at h
  | c :: d :: r, i, k, x, h => by
    unfold charsAt at h; split at h
    · obtain ⟨p, h1, h2, h3⟩ := charsAt_get r (i + 2) k x h
      refine ⟨p, h1, by omega, ?_⟩
      rw [show p - i = (p - (i + 2)) + 2 by omega]; exact h3
    · cases k with
      | zero => simp at h; subst h; exact ⟨i, rfl, Nat.le_refl _, by simp⟩
      | succ k =>
        obtain ⟨p, h1, h2, h3⟩ := charsAt_get (d :: r) (i + 1) k x (by simpa using h)
        refine ⟨p, h1, by omega, ?_⟩
        rw [show p - i = (p - (i + 1)) + 1 by omega]; exact h3
theorem charsAt_rise : ∀ (s : List UInt8) (i k : Nat) (x y : GChar), (charsAt i s)[k]? = some x → (charsAt i s)[k + 1]? = some y → x.at_ < y.at_
  | [], i, k, x, y, h, _ => by simp [charsAt] at h
  | [c], i, k, x, y, h, h' => by simp [charsAt] at h'
  | c :: d :: r, i, k, x, y, h, h' => by
    unfold charsAt at h h'; split at h
    · rename_i hp; rw [if_pos hp] at h'
      exact charsAt_rise r (i + 2) k x y h h'
    · rename_i hp; rw [if_neg hp] at h'
      cases k with
      | zero =>
        simp at h; subst h
        obtain ⟨p, h1, h2, _⟩ := charsAt_get (d :: r) (i + 1) 0 y (by simpa using h')
        rw [h1]; simp only; omega
      | succ k => exact charsAt_rise (d :: r) (i + 1) k x y (by simpa using h) (by simpa using h')
theorem charsAt_drop : ∀ (s : List UInt8) (i k : Nat) (x : GChar) (p : Nat), (charsAt i s)[k]? = some x → x.at_ = p → charsAt p (s.drop (p - i)) = (charsAt i s).drop k
  | [], i, k, x, p, h, _ => by simp [charsAt] at h
  | [c], i, k, x, p, h, hp => by
    cases k with
    | zero =>
      simp [charsAt] at h; subst h
      obtain rfl : i = p := by have : (i : Int) = p := hp; omega
      simp
    | succ k => simp [charsAt] at h
  | c :: d :: r, i, k, x, p, h, hp => by
    by_cases hpair : c = 92 ∧ d = 10
    · have e : charsAt i (c :: d :: r) = charsAt (i + 2) r := by simp only [charsAt, if_pos hpair]
      rw [e] at h ⊢
      obtain ⟨q, h1, h2, _⟩ := charsAt_get r (i + 2) k x h
      obtain rfl : p = q := by omega
      rw [show p - i = (p - (i + 2)) + 2 by omega]
      exact charsAt_drop r (i + 2) k x p h hp
    · have e : charsAt i (c :: d :: r) = ⟨c, i⟩ :: charsAt (i + 1) (d :: r) := by simp only [charsAt, if_neg hpair]
      cases k with
      | zero =>
        rw [e] at h; simp at h; subst h
        obtain rfl : i = p := by have : (i : Int) = p := hp; omega
        simp
      | succ k =>
        rw [e] at h ⊢
        have h' : (charsAt (i + 1) (d :: r))[k]? = some x := by simpa using h
        obtain ⟨q, h1, h2, _⟩ := charsAt_get (d :: r) (i + 1) k x h'
        obtain rfl : p = q := by omega
        rw [show p - i = (p - (i + 1)) + 1 by omega]
        exact charsAt_drop (d :: r) (i + 1) k x p h' hp
theorem charsAt_take : ∀ (s : List UInt8) (i k : Nat) (x : GChar) (p : Nat), (charsAt i s)[k]? = some x → x.at_ = p → charsAt i (s.take (p - i + 1)) = (charsAt i s).take (k + 1)
  | [], i, k, x, p, h, _ => by simp [charsAt] at h
  | [c], i, k, x, p, h, hp => by
    cases k with
    | zero =>
      simp [charsAt] at h; subst h
      obtain rfl : i = p := by have : (i : Int) = p := hp; omega
      simp [charsAt]
    | succ k => simp [charsAt] at h
  | c :: d :: r, i, k, x, p, h, hp => by
    by_cases hpair : c = 92 ∧ d = 10
    · have e : ∀ r, charsAt i (c :: d :: r) = charsAt (i + 2) r := fun r => by simp only [charsAt, if_pos hpair]
      rw [e] at h ⊢
      obtain ⟨q, h1, h2, _⟩ := charsAt_get r (i + 2) k x h
      obtain rfl : p = q := by omega
      rw [show p - i + 1 = (p - (i + 2) + 1) + 1 + 1 by omega, List.take_succ_cons, List.take_succ_cons, e]
      exact charsAt_take r (i + 2) k x p h hp
    · have e : charsAt i (c :: d :: r) = ⟨c, i⟩ :: charsAt (i + 1) (d :: r) := by simp only [charsAt, if_neg hpair]
      cases k with
      | zero =>
        rw [e] at h ⊢; simp at h; subst h
        obtain rfl : i = p := by have : (i : Int) = p := hp; omega
        simp [charsAt]
      | succ k =>
        rw [e] at h ⊢
        have h' : (charsAt (i + 1) (d :: r))[k]? = some x := by simpa using h
        obtain ⟨q, h1, h2, _⟩ := charsAt_get (d :: r) (i + 1) k x h'
        obtain rfl : p = q := by omega
        have ih := charsAt_take (d :: r) (i + 1) k x p h' hp
        rw [show p - i + 1 = (p - (i + 1) + 1) + 1 by omega, List.take_succ_cons, List.take_succ_cons, List.take_succ_cons, ← ih, List.take_succ_cons]
        simp only [charsAt, if_neg hpair]
theorem charsAt_shift : ∀ (s : List UInt8) (i j : Nat), (charsAt i s).map GChar.b = (charsAt j s).map GChar.b
  | [], i, j => rfl
  | [c], i, j => rfl
  | c :: d :: r, i, j => by
    unfold charsAt; split
    · exact charsAt_shift r _ _
    · simp only [List.map_cons]; rw [charsAt_shift (d :: r) (i + 1) (j + 1)]

theorem spliceSpan_eq (t : List UInt8) (a b : Int) (h : t.length ≤ 1000000) : splice_Span t a b = some (spanV t a b) := by
  have hl := charsAt_len t 0
  have hg := charsAt_get t 0
  unfold splice_Span spanV
  rw [bind_of (spliceJoin_eq t h)]
  generalize charsAt 0 t = l at *
  simp only [orO_some, Option.bind_some]
  by_cases h1 : a < 0 ∨ b < a ∨ (l.length : Int) < b
  · rw [ite_t (by simp; omega), if_pos h1]
  rw [ite_f (by simp; omega), if_neg h1]
  by_cases h2 : a = l.length
  · rw [ite_t (decide_eq_true h2), if_pos h2]
  rw [ite_f (decide_eq_false h2), if_neg h2]
  have ha : a.toNat < l.length := by omega
  by_cases h3 : a = b
  · rw [ite_t (decide_eq_true h3), if_pos h3, bind_of (ix_int (by omega) ha), bind_of (ix_int (by omega) ha), atOf_at ha]
  · have hb : (b - 1).toNat < l.length := by omega
    obtain ⟨p, h4, h5, h6⟩ := hg _ _ (List.getElem?_eq_getElem hb)
    have h7 := (List.getElem?_eq_some_iff.1 h6).1
    rw [ite_f (decide_eq_false h3), if_neg h3, bind_of (ix_int (by omega) ha), chk_of (by omega), bind_of (ix_int (by omega) hb), chk_of (by omega), atOf_at ha, atOf_at hb]
theorem refSpan_eq (t : List UInt8) (a b : Int) (h : t.length ≤ 1000000) : emendref02_Span t a b = some (spanV t a b) := by
  have hl := charsAt_len t 0
  have hg := charsAt_get t 0
  unfold emendref02_Span spanV
  rw [bind_of (refJoin_eq t h)]
  generalize charsAt 0 t = l at *
  simp only [orO_some, Option.bind_some]
  by_cases h1 : a < 0 ∨ b < a ∨ (l.length : Int) < b
  · rw [ite_t (by simp; omega), if_pos h1]
  rw [ite_f (by simp; omega), if_neg h1]
  by_cases h3 : a = b
  · rw [ite_t (decide_eq_true h3)]
    by_cases h2 : a = l.length
    · rw [ite_t (decide_eq_true h2), if_pos h2]
    · have ha : a.toNat < l.length := by omega
      rw [ite_f (decide_eq_false h2), if_neg h2, if_pos h3, bind_of (ix_int (by omega) ha), bind_of (ix_int (by omega) ha), atOf_at ha]
  · have h2 : ¬ a = l.length := by omega
    have ha : a.toNat < l.length := by omega
    have hb : (b - 1).toNat < l.length := by omega
    obtain ⟨p, h4, h5, h6⟩ := hg _ _ (List.getElem?_eq_getElem hb)
    have h7 := (List.getElem?_eq_some_iff.1 h6).1
    rw [ite_f (decide_eq_false h3), if_neg h2, if_neg h3, bind_of (ix_int (by omega) ha), chk_of (by omega), bind_of (ix_int (by omega) hb), chk_of (by omega), atOf_at ha, atOf_at hb]
theorem spliceSpans_law (t : List UInt8) (a b : Int) : emendlaw02_SpliceSpans t a b = some true := by
  unfold emendlaw02_SpliceSpans
  rw [bind_of awake2]
  by_cases hl : 2000 < t.length
  · rw [ite_t (decide_eq_true (by omega))]
  · rw [ite_f (decide_eq_false (by omega)), bind_of (spliceSpan_eq t a b (by omega)), bind_of (refSpan_eq t a b (by omega))]
    simp [andO]
theorem spliceWhere_law (t : List UInt8) (a b : Int) : emendlaw02_SpliceWhere t a b = some true := by
  unfold emendlaw02_SpliceWhere
  rw [bind_of awake2]
  by_cases hl : 2000 < t.length
  · rw [ite_t (decide_eq_true (by omega))]
  rw [ite_f (decide_eq_false (by omega)), bind_of (spliceJoin_eq t (by omega))]
  have hcl := charsAt_len t 0
  have hg := charsAt_get t 0
  obtain ⟨r, h1, rfl⟩ := loopS_ix (f := emendlaw02_SpliceWhere_b2 t (charsAt 0 t)) (charsAt 0 t).length (by omega) (fun k s => s.2 = k ∧ ∀ x, (charsAt 0 t)[k]? = some x → s.1 < x.at_) (fun r => r = Sum.inl ()) (s0 := ((-1 : Int), (0 : Int))) ⟨rfl, fun x hx => by
      obtain ⟨p, h1, _⟩ := hg _ _ hx
      simp only; omega⟩ (by
    rintro k ⟨last, i⟩ hk ⟨h1, h2⟩
    simp only at h1 h2; subst h1
    left
    have hx := List.getElem?_eq_getElem hk
    have h3 := h2 _ hx
    obtain ⟨p, h4, h5, h6⟩ := hg _ _ hx
    have h7 := (List.getElem?_eq_some_iff.1 h6).1
    refine ⟨((charsAt 0 t)[k].at_, (k : Int) + 1), ?_, rfl, fun x hx' => charsAt_rise t 0 k _ x hx hx'⟩
    unfold emendlaw02_SpliceWhere_b2
    simp only
    rw [ite_t (decide_eq_true (by omega)), bind_of (ix_at hk), orO_some, Option.bind_some, decide_eq_false (by omega), decide_eq_false (by omega), Bool.or_false]
    rw [bind_of (a := false) (by
      rw [orO, if_neg (by decide), h4, ix_nat, bind_of (show t[p]? = some _ from h6), ix_nat, bind_of hx]
      simp)]
    rw [ite_f rfl, chk_of (by omega)]) (by
    rintro ⟨last, i⟩ ⟨h1, h2⟩
    simp only at h1; subst h1
    refine ⟨_, ?_, rfl⟩
    unfold emendlaw02_SpliceWhere_b2
    simp only
    rw [ite_f (decide_eq_false (by omega))])
  rw [bind_of h1]
  show emendlaw02_SpliceWhere_j1 t a b true (charsAt 0 t) () = some true
  unfold emendlaw02_SpliceWhere_j1
  rw [bind_of (spliceSpan_eq t a b (by omega)), orO_some, Option.bind_some]
  unfold spanV
  by_cases hb1 : a < 0 ∨ b < a ∨ ((charsAt 0 t).length : Int) < b
  · rw [if_pos hb1, ite_t (by simp)]
  rw [if_neg hb1]
  by_cases hab : a = b
  · rw [ite_t (by rw [decide_eq_true hab, Bool.or_true])]
  have hna : ¬ a = (charsAt 0 t).length := by omega
  have ha : a.toNat < (charsAt 0 t).length := by omega
  have hb : (b - 1).toNat < (charsAt 0 t).length := by omega
  have hbt : ((b.toNat : Nat) : Int) = b := by omega
  have hat : ((a.toNat : Nat) : Int) = a := by omega
  rw [if_neg hna, if_neg hab]
  obtain ⟨p, p1, p2, p3⟩ := hg _ _ (List.getElem?_eq_getElem ha)
  obtain ⟨q, q1, q2, q3⟩ := hg _ _ (List.getElem?_eq_getElem hb)
  have p4 := (List.getElem?_eq_some_iff.1 p3).1
  have q4 := (List.getElem?_eq_some_iff.1 q3).1
  rw [atOf_at ha, atOf_at hb, p1, q1]
  have hd := charsAt_drop t 0 _ _ p (List.getElem?_eq_getElem ha) p1
  rw [Nat.sub_zero] at hd
  have hx : (charsAt p (t.drop p))[(b - 1).toNat - a.toNat]? = some (charsAt 0 t)[(b - 1).toNat] := by
    rw [hd, List.getElem?_drop, show a.toNat + ((b - 1).toNat - a.toNat) = (b - 1).toNat by omega]
    exact List.getElem?_eq_getElem hb
  obtain ⟨q', r1, r2, r3⟩ := charsAt_get _ _ _ _ hx
  have hqq : q' = q := by omega
  subst hqq
  have ht := charsAt_take _ _ _ _ q' hx q1
  have e1 : ((t.drop ((p : Int)).toNat).take ((((q' : Int) + 1)).toNat - ((p : Int)).toNat)) = (t.drop p).take (q' - p + 1) := by
    rw [Int.toNat_natCast, show (((q' : Int) + 1)).toNat - p = q' - p + 1 by omega]
  have hlen : ((t.drop p).take (q' - p + 1)).length ≤ 1000000 := by simp only [List.length_take, List.length_drop]; omega
  have hcl2 := charsAt_len ((t.drop p).take (q' - p + 1)) 0
  rw [ite_f (by rw [decide_eq_false hab]; rfl)]
  simp only [orO_some, Option.bind_some]
  rw [ite_f (by simp; omega), chk_of (by omega), e1, bind_of (spliceJoin_eq _ hlen), bind_of (spliceText_eq _ (by omega))]
  rw [chk_of (by omega), bind_of (spliceText_eq _ (by simp only [List.length_take, List.length_drop]; omega))]
  have e2 : (charsAt 0 ((t.drop p).take (q' - p + 1))).map GChar.b = (((charsAt 0 t).drop a.toNat).take (b.toNat - a.toNat)).map GChar.b := by
    rw [charsAt_shift _ 0 p, ht, hd, show (b - 1).toNat - a.toNat + 1 = b.toNat - a.toNat by omega]
  rw [e2]
  simp [andO]
end Go.Sh
