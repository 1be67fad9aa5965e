/-
  DirectNames in plain words. No program in sight.
-/
import Derived.Test.YtghnfeflknfclaaDoorC2
import Derived.Test.YtghnfeflknfclaaDoorC3
import Derived.Test.YtghnfeflknfclaaDoorA11
set_option linter.unusedVariables false
set_option linter.unusedSimpArgs false
namespace Go.Sh
open Go
/-- the bytes of a name -/
def nameCh (c : UInt8) : Bool := isLetter c && c != 95 || isDigit c || c == 46 || c == 45 || c == 47
theorem nameCh_ne : ∀ {c d : UInt8}, nameCh c = true → nameCh d = false → c ≠ d := by rintro c d h1 h2 rfl; rw [h1] at h2; cases h2
theorem wordTail_stop (R : List UInt8) : ∀ w : List UInt8, wordTail (w ++ 62 :: R) ≤ w.length
  | [] => by simp only [List.nil_append, wordTail]; rw [if_neg (by decide)]; exact Nat.le_refl _
  | c :: w => by
    have := wordTail_stop R w
    simp only [List.cons_append, wordTail, List.length_cons]
    split <;> omega
theorem numTail_stop (R : List UInt8) (n : Nat) : ∀ w : List UInt8, w.length ≤ n → numTail (w ++ 62 :: R) ≤ w.length := by
  have base : numTail (62 :: R) = 0 := by rw [numTail_cons, if_neg (by rw [show isExp 62 = false by decide]; simp), if_neg (by decide)]
  induction n with
  | zero =>
    intro w h
    have : w = [] := List.length_eq_zero_iff.1 (by omega)
    subst this; rw [List.nil_append, base]; exact Nat.le_refl _
  | succ n ih =>
    intro w h
    cases w with
    | nil => rw [List.nil_append, base]; exact Nat.le_refl _
    | cons c w =>
      rw [List.length_cons] at h ⊢
      rw [List.cons_append, numTail_cons]
      have h1 := ih w (by omega)
      cases w with
      | nil =>
        rw [List.nil_append, List.headD_cons, show isPM 62 = false by decide, Bool.and_false, if_neg (by simp), base]
        split <;> simp
      | cons d w =>
        rw [List.cons_append] at h1 ⊢
        rw [List.headD_cons, List.drop_succ_cons, List.drop_zero]
        have h2 := ih w (by simp only [List.length_cons] at h; omega)
        simp only [List.length_cons] at h1 ⊢
        split
        · omega
        · split <;> omega
/-- no sign of two or three bytes that begins with a name's byte goes over into what follows the name, but for the arrow -/
theorem sign_stop (c : UInt8) (w R : List UInt8) (hc : nameCh c = true) (hw : ∀ x ∈ w, nameCh x = true) (ha : ¬ (c = 45 ∧ w = [])) : signLen (c :: (w ++ 62 :: R)) ≤ w.length + 1 := by
  have pre : ∀ p : List UInt8, p.isPrefixOf (c :: (w ++ 62 :: R)) = true → p ≠ [] → (∀ q x y, p = x :: q → x = c → (y ∈ q → True)) → True := fun _ _ _ _ => trivial
  unfold signLen
  by_cases h3 : three.any (fun p => p.isPrefixOf (c :: (w ++ 62 :: R))) = true
  · rw [if_pos h3]
    obtain ⟨p, hp, e⟩ := List.any_eq_true.1 h3
    simp only [three, List.mem_cons, List.not_mem_nil, or_false] at hp
    have hcp : ∀ x, nameCh x = false → c ≠ x := fun x hx => nameCh_ne hc hx
    rcases hp with rfl | rfl | rfl
    · simp only [List.isPrefixOf, Bool.and_eq_true, beq_iff_eq] at e
      cases w with
      | nil => simp [List.isPrefixOf] at e
      | cons d w =>
        cases w with
        | nil => simp [List.isPrefixOf] at e
        | cons f w => simp
    · simp only [List.isPrefixOf, Bool.and_eq_true, beq_iff_eq] at e
      exact absurd e.1.symm (hcp 60 (by decide))
    · simp only [List.isPrefixOf, Bool.and_eq_true, beq_iff_eq] at e
      exact absurd e.1.symm (hcp 62 (by decide))
  rw [if_neg h3]
  by_cases h2 : two.any (fun p => p.isPrefixOf (c :: (w ++ 62 :: R))) = true
  · rw [if_pos h2]
    cases w with
    | cons d w => simp
    | nil =>
      exfalso
      obtain ⟨p, hp, e⟩ := List.any_eq_true.1 h2
      have key : ∀ p ∈ two, ∃ x y, p = [x, y] ∧ (y = 62 → x = 45 ∨ nameCh x = false) := by
        intro p hp
        simp only [two, List.mem_cons, List.not_mem_nil, or_false] at hp
        rcases hp with rfl | rfl | rfl | rfl | rfl | rfl | rfl | rfl | rfl | rfl | rfl | rfl | rfl | rfl | rfl | rfl | rfl | rfl | rfl | rfl <;> exact ⟨_, _, rfl, by decide⟩
      obtain ⟨x, y, rfl, hxy⟩ := key p hp
      simp only [List.nil_append, List.isPrefixOf, Bool.and_eq_true, beq_iff_eq, and_true] at e
      rcases hxy e.2 with h | h
      · exact ha ⟨by rw [← e.1, h], rfl⟩
      · exact nameCh_ne hc h e.1.symm
  rw [if_neg h2]
  split <;> omega
theorem name_blank (c : UInt8) (w R : List UInt8) (hc : nameCh c = true) (hw : ∀ x ∈ w, nameCh x = true) (h47 : ¬ (c = 47 ∧ w.head? = some 47)) : blankLen (c :: (w ++ 62 :: R)) = 0 := by
  have ne : ∀ x, nameCh x = false → c ≠ x := fun x hx => nameCh_ne hc hx
  simp only [blankLen]
  have hws : isWS c = false := by
    simp only [isWS, Bool.or_eq_false_iff, beq_eq_false_iff_ne]
    exact ⟨⟨⟨⟨ne 32 (by decide), ne 9 (by decide)⟩, ne 11 (by decide)⟩, ne 12 (by decide)⟩, ne 13 (by decide)⟩
  rw [hws, if_neg (by simp)]
  have hh : (w ++ 62 :: R).head? = some 47 → w.head? = some 47 := by
    cases w with
    | nil => intro h; simp at h
    | cons d w => exact id
  have hh2 : (w ++ 62 :: R).head? ≠ some 42 := by
    cases w with
    | nil => simp
    | cons d w =>
      intro h
      have : d = 42 := by simpa using h
      exact nameCh_ne (hw d (by simp)) (by decide) this
  rw [if_neg (fun h => h47 ⟨h.1, hh h.2⟩), if_neg (fun h => hh2 h.2)]
theorem name_next (c : UInt8) (w R : List UInt8) (hc : nameCh c = true) (hw : ∀ x ∈ w, nameCh x = true) (ha : ¬ (c = 45 ∧ w = [])) : (nextTok (c :: (w ++ 62 :: R))).1 ≠ 7 ∧ (nextTok (c :: (w ++ 62 :: R))).2 ≤ w.length + 1 := by
  have ne : ∀ x, nameCh x = false → c ≠ x := fun x hx => nameCh_ne hc hx
  unfold nextTok
  rw [if_neg (by rw [List.head?_cons]; intro h; injection h with h; exact ne 10 (by decide) h)]
  split
  · refine ⟨by simp, ?_⟩
    have := wordTail_stop R w
    simp only [wordLen]; split <;> omega
  split
  · refine ⟨by simp, ?_⟩
    have := numTail_stop R _ w (Nat.le_refl _)
    simp only [numLen]; split <;> omega
  have q0 : ∀ q, nameCh q = false → quoLen q (c :: (w ++ 62 :: R)) = 0 := fun q hq => by simp only [quoLen, if_neg (ne q hq)]
  rw [q0 34 (by decide), q0 39 (by decide), if_neg (by omega), if_neg (by omega)]
  split
  · exact ⟨by simp, sign_stop c w R hc hw ha⟩
  · exact ⟨by simp, by simp⟩
/-- the tokens of a name, and of the sign behind it -/
theorem name_toks (R : List UInt8) (hR : ∀ i b, toks i b R = []) (hsg : nextTok (62 :: R) = (5, 1)) (n : Nat) : ∀ (i : Nat) (w : List UInt8), w.length ≤ n → (∀ x ∈ w, nameCh x = true) → has2 47 47 w = false → w.getLast? ≠ some 45 →
    ∃ (ps : List PT) (j : Nat), toks i false (w ++ 62 :: R) = ps ++ [⟨5, [62], j, j + 1, false⟩] ∧ (ps.map PT.text).flatten = w ∧ ∀ p ∈ ps, p.blank = false ∧ p.text ≠ [62] ∧ p.kind ≠ 7 := by
  have base : ∀ i, ∃ (ps : List PT) (j : Nat), toks i false (([] : List UInt8) ++ 62 :: R) = ps ++ [⟨5, [62], j, j + 1, false⟩] ∧ (ps.map PT.text).flatten = [] ∧ ∀ p ∈ ps, p.blank = false ∧ p.text ≠ [62] ∧ p.kind ≠ 7 := by
    intro i
    refine ⟨[], i, ?_, rfl, fun p hp => by cases hp⟩
    rw [List.nil_append, toks_tok (by simp) (by simp [blankLen, isWS]), hsg]
    simp only [List.take_succ_cons, List.take_zero, List.drop_succ_cons, List.drop_zero, hR, List.nil_append]
  induction n with
  | zero =>
    intro i w h _ _ _
    have : w = [] := List.length_eq_zero_iff.1 (by omega)
    subst this; exact base i
  | succ n ih =>
    intro i w h hw h2 hl
    cases w with
    | nil => exact base i
    | cons c w =>
      have hc := hw c (by simp)
      have hw' : ∀ x ∈ w, nameCh x = true := fun x hx => hw x (by simp [hx])
      have hb := name_blank c w R hc hw' (by
        rintro ⟨rfl, hh⟩
        cases w with
        | nil => cases hh
        | cons d w =>
          have : d = 47 := by simpa using hh
          subst this
          simp [has2] at h2)
      have ha : ¬ (c = 45 ∧ w = []) := by rintro ⟨rfl, rfl⟩; simp at hl
      obtain ⟨g1, g2⟩ := name_next c w R hc hw' ha
      have hp := nextTok_pos (c :: (w ++ 62 :: R))
      rw [List.cons_append, toks_tok (by simp) hb]
      obtain ⟨m, hm⟩ : ∃ m, m = (nextTok (c :: (w ++ 62 :: R))).2 := ⟨_, rfl⟩
      rw [← hm] at g2 hp ⊢
      have hcons : c :: (w ++ 62 :: R) = (c :: w) ++ 62 :: R := rfl
      have hlw : (c :: w).length = w.length + 1 := rfl
      rw [hcons, List.take_append_of_le_length (by omega), List.drop_append_of_le_length (by omega)]
      have hap := has2_append 47 47 ((c :: w).take m) ((c :: w).drop m)
      rw [List.take_append_drop, h2] at hap
      have hap := hap.symm
      simp only [Bool.or_eq_false_iff] at hap
      obtain ⟨ps, j, q1, q2, q3⟩ := ih (i + m) ((c :: w).drop m) (by rw [List.length_drop]; omega) (fun x hx => hw x (List.mem_of_mem_drop hx)) hap.1.2 (by
        intro e
        apply hl
        by_cases hd : (c :: w).drop m = []
        · rw [hd] at e; cases e
        · have : ((c :: w).take m ++ (c :: w).drop m).getLast? = ((c :: w).drop m).getLast? := by
            rw [List.getLast?_append, e]; rfl
          rw [List.take_append_drop] at this
          rw [this]; exact e)
      refine ⟨⟨_, (c :: w).take m, i, i + m, false⟩ :: ps, j, by rw [q1]; rfl, ?_, ?_⟩
      · rw [List.map_cons, List.flatten_cons, q2, List.take_append_drop]
      · intro p hp2
        rcases List.mem_cons.1 hp2 with rfl | hp2
        · refine ⟨rfl, ?_, g1⟩
          obtain ⟨k, hk⟩ : ∃ k, m = k + 1 := ⟨m - 1, by omega⟩
          simp only [hk, List.take_succ_cons]
          intro e
          injection e with e _
          exact nameCh_ne hc (by decide) e
        · exact q3 p hp2
theorem quo_name (w X : List UInt8) (hw : ∀ x ∈ w, nameCh x = true) : quoTail 34 (w ++ 34 :: X) = some (w.length + 1) := by
  induction w with
  | nil => rw [List.nil_append, quoTail_cons, if_pos rfl]; rfl
  | cons c w ih =>
    have hc := hw c (by simp)
    rw [List.cons_append, quoTail_cons, if_neg (nameCh_ne hc (by decide)), if_neg (nameCh_ne hc (by decide)), if_neg (nameCh_ne hc (by decide)), ih (fun x hx => hw x (by simp [hx]))]; rfl
theorem charsAt_plain : ∀ (s : List UInt8) (j : Nat), (∀ c ∈ s, c ≠ 92) → (charsAt j s).map GChar.b = s
  | [], j, _ => rfl
  | [c], j, _ => rfl
  | c :: d :: r, j, h => by
    rw [charsAt, if_neg (fun e => h c (by simp) e.1), List.map_cons, charsAt_plain (d :: r) (j + 1) (fun x hx => h x (by simp at hx ⊢; exact .inr hx))]
theorem sign_lt (c : UInt8) (X : List UInt8) (hc : nameCh c = true) : nextTok (60 :: c :: X) = (5, 1) := by
  have h60 : c ≠ 60 := nameCh_ne hc (by decide)
  have h61 : c ≠ 61 := nameCh_ne hc (by decide)
  have e : signLen (60 :: c :: X) = 1 := by
    unfold signLen
    simp [three, two, ones, List.isPrefixOf, Ne.symm h60, Ne.symm h61]
  unfold nextTok
  rw [if_neg (by simp), if_neg (by simp [wordLen, isLetter]), if_neg (by simp [numLen, isDigit]), if_neg (by simp [quoLen]), if_neg (by simp [quoLen]), e, if_pos (by decide)]
/-- the first text's tokens -/
theorem toks_quoted (w : List UInt8) (hw : ∀ x ∈ w, nameCh x = true) : ∃ i1 i2 i3 i4, toks 0 false (35 :: 105 :: 110 :: 99 :: 108 :: 117 :: 100 :: 101 :: 32 :: 34 :: (w ++ [34, 10])) = [⟨5, [35], 0, 1, false⟩, ⟨1, [105, 110, 99, 108, 117, 100, 101], 1, 8, false⟩, ⟨4, 34 :: (w ++ [34]), i1, i2, true⟩, ⟨7, [10], i3, i4, false⟩] := by
  have hq : nextTok (34 :: (w ++ [34, 10])) = (4, w.length + 2) := by
    have e : quoLen 34 (34 :: (w ++ [34, 10])) = w.length + 2 := by
      simp only [quoLen, if_true]
      rw [if_neg (by simp), quo_name w [10] hw]
    unfold nextTok
    rw [if_neg (by simp), if_neg (by simp [wordLen, isLetter]), if_neg (by simp [numLen, isDigit]), e, if_pos (by omega)]
  refine ⟨9, 9 + (w.length + 2), 9 + (w.length + 2), 9 + (w.length + 2) + 1, ?_⟩
  rw [toks_tok (by simp) (by simp [blankLen, isWS])]
  rw [show nextTok (35 :: 105 :: 110 :: 99 :: 108 :: 117 :: 100 :: 101 :: 32 :: 34 :: (w ++ [34, 10])) = (5, 1) by kernel_rfl]
  simp only [List.take_succ_cons, List.take_zero, List.drop_succ_cons, List.drop_zero]
  rw [toks_tok (by simp) (by simp [blankLen, isWS])]
  rw [show nextTok (105 :: 110 :: 99 :: 108 :: 117 :: 100 :: 101 :: 32 :: 34 :: (w ++ [34, 10])) = (1, 7) by kernel_rfl]
  simp only [List.take_succ_cons, List.take_zero, List.drop_succ_cons, List.drop_zero]
  have hbl : blankLen (32 :: 34 :: (w ++ [34, 10])) = 1 := by simp [blankLen, isWS]
  rw [toks_blank (by rw [hbl]; decide), hbl, List.drop_succ_cons, List.drop_zero]
  rw [toks_tok (by simp) (by simp [blankLen, isWS]), hq]
  have ht : (34 :: (w ++ [34, 10])).take (w.length + 2) = 34 :: (w ++ [34]) := by
    rw [List.take_succ_cons, List.take_append, List.take_of_length_le (by omega), show w.length + 1 - w.length = 1 by omega]; rfl
  have hd : (34 :: (w ++ [34, 10])).drop (w.length + 2) = [10] := by
    rw [List.drop_succ_cons, List.drop_append, List.drop_of_length_le (by omega), show w.length + 1 - w.length = 1 by omega]; rfl
  simp only [ht, hd]
  rw [toks_tok (by simp) (by simp [blankLen, isWS])]
  rw [show nextTok [10] = (7, 1) by rfl]
  simp only [List.take_succ_cons, List.take_zero, List.drop_succ_cons, List.drop_zero, toks_nil, Nat.zero_add, Nat.reduceAdd]
/-- the second text's -/
theorem toks_angled (w : List UInt8) (hw : ∀ x ∈ w, nameCh x = true) (h1 : w ≠ []) (h2 : has2 47 47 w = false) (hl : w.getLast? ≠ some 45) : ∃ (ps : List PT) (i1 i2 j : Nat), toks 0 false (35 :: 32 :: 32 :: 105 :: 110 :: 99 :: 108 :: 117 :: 100 :: 101 :: 32 :: 60 :: (w ++ 62 :: [32, 47, 47, 32, 120])) = ⟨5, [35], 0, 1, false⟩ :: ⟨1, [105, 110, 99, 108, 117, 100, 101], 3, 10, true⟩ :: ⟨5, [60], i1, i2, true⟩ :: (ps ++ [⟨5, [62], j, j + 1, false⟩]) ∧ (ps.map PT.text).flatten = w ∧ ∀ p ∈ ps, p.blank = false ∧ p.text ≠ [62] ∧ p.kind ≠ 7 := by
  have hR : ∀ i b, toks i b [32, 47, 47, 32, 120] = [] := by
    intro i b
    have e1 : blankLen [32, 47, 47, 32, 120] = 1 := by simp [blankLen, isWS]
    have e2 : blankLen [47, 47, 32, 120] = 4 := by simp [blankLen, isWS, lineLen]
    rw [toks_blank (by rw [e1]; decide), e1]
    simp only [List.drop_succ_cons, List.drop_zero]
    rw [toks_blank (by rw [e2]; decide), e2]
    simp only [List.drop_succ_cons, List.drop_zero]
    exact toks_nil _ _
  obtain ⟨ps, j, q1, q2, q3⟩ := name_toks [32, 47, 47, 32, 120] hR (by kernel_rfl) w.length 12 w (Nat.le_refl _) hw h2 hl
  refine ⟨ps, 11, 12, j, ?_, q2, q3⟩
  cases w with
  | nil => exact absurd rfl h1
  | cons c w =>
  have hb1 : ∀ X, blankLen (32 :: X) = 1 := fun X => by simp [blankLen, isWS]
  rw [toks_tok (by simp) (by simp [blankLen, isWS])]
  rw [show nextTok (35 :: 32 :: 32 :: 105 :: 110 :: 99 :: 108 :: 117 :: 100 :: 101 :: 32 :: 60 :: ((c :: w) ++ 62 :: [32, 47, 47, 32, 120])) = (5, 1) by kernel_rfl]
  simp only [List.take_succ_cons, List.take_zero, List.drop_succ_cons, List.drop_zero]
  rw [toks_blank (by rw [hb1]; decide), hb1, List.drop_succ_cons, List.drop_zero, toks_blank (by rw [hb1]; decide), hb1, List.drop_succ_cons, List.drop_zero]
  rw [toks_tok (by simp) (by simp [blankLen, isWS])]
  rw [show nextTok (105 :: 110 :: 99 :: 108 :: 117 :: 100 :: 101 :: 32 :: 60 :: ((c :: w) ++ 62 :: [32, 47, 47, 32, 120])) = (1, 7) by kernel_rfl]
  simp only [List.take_succ_cons, List.take_zero, List.drop_succ_cons, List.drop_zero]
  rw [toks_blank (by rw [hb1]; decide), hb1, List.drop_succ_cons, List.drop_zero]
  rw [toks_tok (by simp) (by simp [blankLen, isWS])]
  rw [List.cons_append, sign_lt c _ (hw c (by simp))]
  simp only [List.take_succ_cons, List.take_zero, List.drop_succ_cons, List.drop_zero, Nat.zero_add, Nat.reduceAdd]
  rw [← List.cons_append, q1]
/-! ### the law -/
theorem nameCh_eq (c : UInt8) : (ile 97 (c.toNat : Int) && ile (c.toNat : Int) 122 || ile 65 (c.toNat : Int) && ile (c.toNat : Int) 90 || ile 48 (c.toNat : Int) && ile (c.toNat : Int) 57 || c == 46 || c == 45 || c == 47) = nameCh c := by
  unfold nameCh isLetter isDigit
  have e : decide ((c.toNat : Int) = 95) = (c == 95) := by rw [neqB]; exact m8_95 c
  rw [e]
  by_cases h : c = 95
  · subst h; decide
  · rw [eqF h]
    have : (c != 95) = true := by simpa using h
    rw [this]; simp only [nleB, Bool.false_or, Bool.and_true]
theorem take_snoc {α : Type} (l : List α) (k : Nat) (h : k < l.length) : l.take (k + 1) = l.take k ++ [l[k]] := by rw [List.take_add_one, List.getElem?_eq_getElem h]; rfl
theorem names_loop (w : List UInt8) (b : Bool) (hl : w.length ≤ 2000000) : ∃ r, loopS (emendlaw04_DirectNames_b2 w b) 0 = some r ∧ (r = .inr b ∨ (r = .inl () ∧ (∀ x ∈ w, nameCh x = true) ∧ has2 47 47 w = false)) := by
  refine loopS_ix (f := emendlaw04_DirectNames_b2 w b) w.length (by omega) (fun k x => x = (k : Int) ∧ (∀ x ∈ w.take k, nameCh x = true) ∧ has2 47 47 (w.take k) = false) (fun r => r = .inr b ∨ (r = .inl () ∧ (∀ x ∈ w, nameCh x = true) ∧ has2 47 47 w = false)) (s0 := (0 : Int)) ⟨rfl, (fun x hx => by simp at hx), rfl⟩ (by
    rintro k x hk ⟨rfl, h1, h2⟩
    unfold emendlaw04_DirectNames_b2
    simp only [chkB, andB, orB, condAnd, condOr, iteB, neqB, nltB, nleB, m8_9, m8_10, m8_11, m8_12, m8_13, m8_32, m8_34, m8_35, m8_39, m8_40, m8_41, m8_42, m8_43, m8_44, m8_45, m8_46, m8_47, m8_48, m8_60, m8_62, m8_64, m8_65, m8_67, m8_69, m8_80, m8_90, m8_92, m8_95, m8_97, m8_101, m8_112, m8_122, m8, orO_some, andO_some, Option.bind_some, getD_drop, nameCh_eq]
    rw [iteT (ltT (by omega)), ix_at hk, Option.bind_some]
    have hst : w.take (k + 1) = w.take k ++ [w[k]] := take_snoc w k hk
    by_cases hc : nameCh w[k] = true
    · rw [hc, iteF (b := !true) rfl]
      by_cases h47 : 0 < k ∧ w[k] = 47
      · rw [iteT (b := ilt 0 (k : Int) && w[k] == 47) (by rw [ltT (by omega), eqT h47.2]; rfl), pk (by omega), show ((k : Int) - 1) = ((k - 1 : Nat) : Int) by omega, ix_at (show k - 1 < w.length by omega), Option.bind_some, Option.bind_some, Option.bind_some]
        have hlast : (w.take k).getLast? = some w[k - 1] := by
          obtain ⟨j, rfl⟩ : ∃ j, k = j + 1 := ⟨k - 1, by omega⟩
          rw [take_snoc w j (by omega), List.getLast?_append]; rfl
        by_cases hp : w[k - 1] = 47
        · right
          rw [iteT (eqT hp)]
          exact ⟨_, rfl, .inl rfl⟩
        · left
          rw [iteF (eqF hp), pk (by omega)]
          refine ⟨_, rfl, rfl, ?_, ?_⟩
          · rw [hst]; intro x hx
            rcases List.mem_append.1 hx with hx | hx
            · exact h1 x hx
            · rw [List.mem_singleton.1 hx]; exact hc
          · rw [hst, has2_append, h2, hlast]
            have : (some w[k - 1] == some (47 : UInt8)) = false := by simpa using hp
            rw [this]; simp [has2]
      · left
        rw [iteF (b := ilt 0 (k : Int) && w[k] == 47) (by
          rcases Decidable.not_and_iff_or_not.1 h47 with h | h
          · rw [ltF (by omega)]; rfl
          · rw [eqF h, Bool.and_false]), Option.bind_some, Option.bind_some, iteF rfl, pk (by omega)]
        refine ⟨_, rfl, rfl, ?_, ?_⟩
        · rw [hst]; intro x hx
          rcases List.mem_append.1 hx with hx | hx
          · exact h1 x hx
          · rw [List.mem_singleton.1 hx]; exact hc
        · rw [hst, has2_append, h2]
          rcases Decidable.not_and_iff_or_not.1 h47 with h | h
          · have : k = 0 := by omega
            subst this; simp [has2]
          · have : ([w[k]].head? == some (47 : UInt8)) = false := by simpa using h
            rw [this]; simp [has2]
    · right
      rw [Bool.eq_false_iff.2 hc, iteT (b := !false) rfl, Option.bind_some, iteT rfl]
      exact ⟨_, rfl, .inl rfl⟩) (by
    rintro x ⟨rfl, h1, h2⟩
    rw [List.take_length] at h1 h2
    unfold emendlaw04_DirectNames_b2
    simp only [chkB, andB, orB, condAnd, condOr, iteB, neqB, nltB, nleB, m8_9, m8_10, m8_11, m8_12, m8_13, m8_32, m8_34, m8_35, m8_39, m8_40, m8_41, m8_42, m8_43, m8_44, m8_45, m8_46, m8_47, m8_48, m8_60, m8_62, m8_64, m8_65, m8_67, m8_69, m8_80, m8_90, m8_92, m8_95, m8_97, m8_101, m8_112, m8_122, m8, orO_some, andO_some, Option.bind_some, getD_drop]
    rw [iteF (ltF (by omega))]
    exact ⟨_, rfl, .inr ⟨rfl, h1, h2⟩⟩)
theorem arrow_loop (w : List UInt8) (h1 : w ≠ []) (hl : w.length ≤ 2000000) : loopS (emendlaw04_DirectNames_b4 w) (false, 0) = some (decide (w.getLast? = some 45)) := by
  have hp := List.length_pos_iff.2 h1
  have hlast : w.getLast? = some (w[w.length - 1]) := by rw [List.getLast?_eq_getElem?]; exact List.getElem?_eq_getElem (by omega)
  obtain ⟨r, g1, rfl⟩ := loopS_ix (f := emendlaw04_DirectNames_b4 w) w.length (by omega) (fun k x => x.2 = (k : Int) ∧ x.1 = (decide (k = w.length) && decide (w.getLast? = some 45))) (fun r => r = decide (w.getLast? = some 45)) (s0 := (false, (0 : Int))) ⟨rfl, by rw [decide_eq_false (show ¬ 0 = w.length by omega)]; rfl⟩ (by
    rintro k ⟨a, x⟩ hk ⟨e1, e2⟩
    simp only at e1 e2; subst e1
    have : a = false := by rw [e2, decide_eq_false (by omega)]; rfl
    subst this
    left
    unfold emendlaw04_DirectNames_b4
    simp only [chkB, andB, orB, condAnd, condOr, iteB, neqB, nltB, nleB, m8_9, m8_10, m8_11, m8_12, m8_13, m8_32, m8_34, m8_35, m8_39, m8_40, m8_41, m8_42, m8_43, m8_44, m8_45, m8_46, m8_47, m8_48, m8_60, m8_62, m8_64, m8_65, m8_67, m8_69, m8_80, m8_90, m8_92, m8_95, m8_97, m8_101, m8_112, m8_122, m8, orO_some, andO_some, Option.bind_some, getD_drop]
    rw [iteT (ltT (by omega)), iteF rfl, ix_at hk, Option.bind_some]
    by_cases hc : w[k] = 45
    · rw [iteT (eqT hc), pk (by omega), Option.bind_some, Option.bind_some, pk (by omega)]
      refine ⟨_, rfl, rfl, ?_⟩
      simp only
      by_cases hk2 : k + 1 = w.length
      · have h45 : w.getLast? = some 45 := by rw [hlast, ← hc]; simp only [← hk2, Nat.add_sub_cancel]
        rw [eqT (a := k + 1) hk2, eqT (show (k : Int) = (w.length : Int) - 1 by omega), h45]; rfl
      · rw [eqF (a := k + 1) hk2, eqF (show ¬ (k : Int) = (w.length : Int) - 1 by omega)]; rfl
    · rw [iteF (eqF hc), Option.bind_some, Option.bind_some, pk (by omega)]
      refine ⟨_, rfl, rfl, ?_⟩
      simp only
      by_cases hk2 : k + 1 = w.length
      · have h45 : w.getLast? ≠ some 45 := by rw [hlast]; simp only [← hk2, Nat.add_sub_cancel]; intro e; injection e with e; exact hc e
        rw [eqF h45, Bool.and_false]
      · rw [eqF (a := k + 1) hk2]; rfl) (by
    rintro ⟨a, x⟩ ⟨e1, e2⟩
    simp only at e1 e2; subst e1
    refine ⟨a, ?_, by rw [e2]; simp⟩
    unfold emendlaw04_DirectNames_b4
    simp only [chkB, andB, orB, condAnd, condOr, iteB, neqB, nltB, nleB, m8_9, m8_10, m8_11, m8_12, m8_13, m8_32, m8_34, m8_35, m8_39, m8_40, m8_41, m8_42, m8_43, m8_44, m8_45, m8_46, m8_47, m8_48, m8_60, m8_62, m8_64, m8_65, m8_67, m8_69, m8_80, m8_90, m8_92, m8_95, m8_97, m8_101, m8_112, m8_122, m8, orO_some, andO_some, Option.bind_some, getD_drop]
    exact iteF (ltF (by omega)))
  exact g1
def firstOf (s : List UInt8) : GLine := ((linesOf (tokens 0 s))[0]?).getD ⟨0, 0, 0, []⟩
theorem first_eq (s : List UInt8) (h : s.length ≤ 2000000) : emendlaw04_first s = some (firstOf s) := by
  have h1 := tokens_len 0 s
  unfold emendlaw04_first firstOf
  rw [tokens_eq 0 s h, Option.bind_some, lines_eq _ (by omega), Option.bind_some]
  generalize linesOf (tokens 0 s) = l
  cases l with
  | nil => rfl
  | cons x l =>
    rw [if_neg (by simp only [decide_eq_true_eq, List.length_cons]; omega)]; rfl
theorem first_target (s : List UInt8) (h : s.length ≤ 500) : direct_Target (firstOf s) = some (targetOf (firstOf s)) := by
  have h1 := tokens_len 0 s
  have h2 := tokens_room 0 s
  have key : (firstOf s).toks.Sublist (tokens 0 s) := by
    unfold firstOf
    cases hl : (linesOf (tokens 0 s))[0]? with
    | none => exact List.nil_sublist _
    | some x =>
      have hx : x ∈ linesOf (tokens 0 s) := List.mem_of_getElem? hl
      unfold linesOf at hx
      obtain ⟨p, hp, rfl⟩ := List.mem_map.1 hx
      obtain ⟨_, _, k, _, hk⟩ := lineOf_n (((tokens 0 s).drop p.1.toNat).take (p.2.toNat - p.1.toNat)) p.1
      simp only [Option.getD_some, pieceOf]
      rw [hk]
      exact (List.drop_sublist _ _).trans ((List.take_sublist _ _).trans (List.drop_sublist _ _))
  have h3 := key.length_le
  have h4 := printT_sub key
  exact target_eq _ (by omega) (by omega)
theorem nameOf_plain : ∀ l : List GTok, (∀ t ∈ l, t.blank = false) → nameOf l = (l.map GTok.text).flatten
  | [], _ => rfl
  | t :: r, h => by
    have : ∀ r : List GTok, (∀ t ∈ r, t.blank = false) → printT r = (r.map GTok.text).flatten := by
      intro r
      induction r with
      | nil => intro _; rfl
      | cons u r ih =>
        intro h
        have e : printT (u :: r) = printOne u ++ printT r := by unfold printT; rw [List.flatMap_cons]
        rw [e, ih (fun x hx => h x (by simp [hx])), printOne, h u (by simp)]; rfl
    rw [nameOf, this r (fun x hx => h x (by simp [hx])), List.map_cons, List.flatten_cons]
theorem pieces_no7 : ∀ (l : List GTok) (f i : Nat), (∀ t ∈ l, t.kind ≠ 7) → f < i + l.length → piecesF f i l = [((f : Int), ((i + l.length : Nat) : Int))]
  | [], f, i, _, h => by rw [piecesF, if_pos (by simpa using h)]; rfl
  | t :: r, f, i, h7, h => by
    rw [piecesF, if_neg (h7 t (by simp)), pieces_no7 r f (i + 1) (fun x hx => h7 x (by simp [hx])) (by rw [List.length_cons] at h; omega), List.length_cons, show i + 1 + r.length = i + (r.length + 1) by omega]
theorem plain_of (s : List UInt8) (h : ∀ c ∈ s, c ≠ 92) : (charsAt 0 s).map GChar.b = s := charsAt_plain s 0 h
theorem target_quoted (w : List UInt8) (hw : ∀ x ∈ w, nameCh x = true) : targetOf (firstOf (35 :: 105 :: 110 :: 99 :: 108 :: 117 :: 100 :: 101 :: 32 :: 34 :: (w ++ [34, 10]))) = (w, false, 0) := by
  obtain ⟨i1, i2, i3, i4, ht⟩ := toks_quoted w hw
  have hp := plain_of (35 :: 105 :: 110 :: 99 :: 108 :: 117 :: 100 :: 101 :: 32 :: 34 :: (w ++ [34, 10])) (by
    intro c hc
    simp only [List.mem_cons, List.mem_append, List.not_mem_nil, or_false] at hc
    rcases hc with rfl | rfl | rfl | rfl | rfl | rfl | rfl | rfl | rfl | rfl | hc | rfl | rfl <;> first | decide | exact nameCh_ne (hw _ hc) (by decide))
  generalize 35 :: 105 :: 110 :: 99 :: 108 :: 117 :: 100 :: 101 :: 32 :: 34 :: (w ++ [34, 10]) = s at *
  have e : tokens 0 s = [tokOf 0 (charsAt 0 s) ⟨5, [35], 0, 1, false⟩, tokOf 0 (charsAt 0 s) ⟨1, [105, 110, 99, 108, 117, 100, 101], 1, 8, false⟩, tokOf 0 (charsAt 0 s) ⟨4, 34 :: (w ++ [34]), i1, i2, true⟩, tokOf 0 (charsAt 0 s) ⟨7, [10], i3, i4, false⟩] := by
    unfold tokens
    rw [hp, ht]; rfl
  generalize charsAt 0 s = cs at *
  have hl : firstOf s = ⟨10, 0, 3, [tokOf 0 cs ⟨4, 34 :: (w ++ [34]), i1, i2, true⟩]⟩ := by
    unfold firstOf linesOf
    rw [e]; rfl
  rw [hl]
  unfold targetOf
  simp only [tokOf]
  rw [if_neg (by simp), if_pos ⟨trivial, by simp⟩]
  simp only [List.drop_succ_cons, List.drop_zero, List.length_cons, List.length_append, List.length_nil]
  rw [show w.length + (0 + 1) + 1 - 2 = w.length by omega, List.take_append_of_le_length (Nat.le_refl _), List.take_length]
theorem target_angled (w : List UInt8) (hw : ∀ x ∈ w, nameCh x = true) (h1 : w ≠ []) (h2 : has2 47 47 w = false) (hl : w.getLast? ≠ some 45) : targetOf (firstOf (35 :: 32 :: 32 :: 105 :: 110 :: 99 :: 108 :: 117 :: 100 :: 101 :: 32 :: 60 :: (w ++ 62 :: [32, 47, 47, 32, 120]))) = (w, true, 0) := by
  obtain ⟨ps, i1, i2, j, ht, hf, hps⟩ := toks_angled w hw h1 h2 hl
  have hp := plain_of (35 :: 32 :: 32 :: 105 :: 110 :: 99 :: 108 :: 117 :: 100 :: 101 :: 32 :: 60 :: (w ++ 62 :: [32, 47, 47, 32, 120])) (by
    intro c hc
    simp only [List.mem_cons, List.mem_append, List.not_mem_nil, or_false] at hc
    rcases hc with rfl | rfl | rfl | rfl | rfl | rfl | rfl | rfl | rfl | rfl | rfl | rfl | hc | rfl | rfl | rfl | rfl | rfl | rfl <;> first | decide | exact nameCh_ne (hw _ hc) (by decide))
  generalize 35 :: 32 :: 32 :: 105 :: 110 :: 99 :: 108 :: 117 :: 100 :: 101 :: 32 :: 60 :: (w ++ 62 :: [32, 47, 47, 32, 120]) = s at *
  have e : tokens 0 s = tokOf 0 (charsAt 0 s) ⟨5, [35], 0, 1, false⟩ :: tokOf 0 (charsAt 0 s) ⟨1, [105, 110, 99, 108, 117, 100, 101], 3, 10, true⟩ :: tokOf 0 (charsAt 0 s) ⟨5, [60], i1, i2, true⟩ :: (ps.map (tokOf 0 (charsAt 0 s)) ++ [tokOf 0 (charsAt 0 s) ⟨5, [62], j, j + 1, false⟩]) := by
    unfold tokens
    rw [hp, ht]; simp only [List.map_cons, List.map_append, List.map_nil]
  generalize charsAt 0 s = cs at *
  obtain ⟨qs, hq⟩ : ∃ qs, qs = ps.map (tokOf 0 cs) := ⟨_, rfl⟩
  have hqs : ∀ t ∈ qs, t.blank = false ∧ t.text ≠ [62] ∧ t.kind ≠ 7 := by
    intro t ht
    rw [hq] at ht
    obtain ⟨p, hp, rfl⟩ := List.mem_map.1 ht
    exact hps p hp
  have hqf : (qs.map GTok.text).flatten = w := by
    rw [hq, List.map_map, ← hf]; rfl
  have hqn : qs ≠ [] := by intro e; rw [e] at hqf; exact h1 (by rw [← hqf]; rfl)
  rw [← hq] at e
  obtain ⟨t3, h3⟩ : ∃ t3, t3 = tokOf 0 cs ⟨5, [60], i1, i2, true⟩ := ⟨_, rfl⟩
  obtain ⟨t4, h4⟩ : ∃ t4, t4 = tokOf 0 cs ⟨5, [62], j, j + 1, false⟩ := ⟨_, rfl⟩
  rw [← h3, ← h4] at e
  have hl : ∃ n, firstOf s = ⟨10, 0, n, t3 :: (qs ++ [t4])⟩ := by
    have h7 : ∀ t ∈ tokens 0 s, t.kind ≠ 7 := by
      rw [e]; intro t ht
      simp only [List.mem_cons, List.mem_append, List.not_mem_nil, or_false] at ht
      rcases ht with rfl | rfl | rfl | ht | rfl
      · simp [tokOf]
      · simp [tokOf]
      · rw [h3]; simp [tokOf]
      · exact (hqs t ht).2.2
      · rw [h4]; simp [tokOf]
    have hpos : 0 < (tokens 0 s).length := by rw [e]; simp
    unfold firstOf linesOf
    rw [pieces_no7 _ 0 0 h7 (by omega), List.map_cons, List.map_nil]
    simp only [List.getElem?_cons_zero, Option.getD_some, pieceOf, Int.toNat_natCast, Nat.zero_add, Nat.sub_zero, List.drop_zero, List.take_length]
    rw [e]; exact ⟨_, rfl⟩
  obtain ⟨n, hl⟩ := hl
  rw [hl]
  unfold targetOf
  simp only
  rw [if_neg (by simp)]
  obtain ⟨u, r, hur⟩ : ∃ u r, qs ++ [t4] = u :: r := by
    cases qs with
    | nil => exact ⟨_, _, rfl⟩
    | cons a b => exact ⟨_, _, rfl⟩
  have hlen : r.length = qs.length := by
    have := congrArg List.length hur
    simp only [List.length_append, List.length_cons, List.length_nil] at this; omega
  have hqp := List.length_pos_iff.2 hqn
  have hmid : midOf (t3 :: u :: r) = qs := by
    unfold midOf
    rw [← hur]
    simp only [List.drop_succ_cons, List.drop_zero, List.length_cons, List.length_append, List.length_nil]
    rw [show qs.length + (0 + 1) + 1 - 2 = qs.length by omega, List.take_append_of_le_length (Nat.le_refl _), List.take_length]
  have hlast : (t3 :: u :: r)[(t3 :: u :: r).length - 1]'(by simp) = t4 := by
    have : (t3 :: u :: r)[(t3 :: u :: r).length - 1]? = some t4 := by
      rw [← List.getLast?_eq_getElem?, ← hur, ← List.cons_append, List.getLast?_append]; rfl
    rw [List.getElem?_eq_getElem (by simp)] at this
    injection this
  rw [hur]
  simp only [hmid, hlast]
  rw [if_pos]
  · rw [nameOf_plain qs (fun t ht => (hqs t ht).1), hqf]
  · refine ⟨by simp only [List.length_cons]; omega, by rw [h3]; rfl, by rw [h4]; rfl, ?_⟩
    rw [List.any_eq_false]
    intro t ht
    have := (hqs t ht).2.1
    unfold isS
    rw [eqF this, Bool.and_false]; simp
theorem directNames_law (w : List UInt8) : emendlaw04_DirectNames w = some true := by
  unfold emendlaw04_DirectNames
  rw [awake4, Option.bind_some]
  by_cases hl : w.length < 1 ∨ 50 < w.length
  · simp only [chkB, andB, orB, condAnd, condOr, iteB, neqB, nltB, nleB, m8_9, m8_10, m8_11, m8_12, m8_13, m8_32, m8_34, m8_35, m8_39, m8_40, m8_41, m8_42, m8_43, m8_44, m8_45, m8_46, m8_47, m8_48, m8_60, m8_62, m8_64, m8_65, m8_67, m8_69, m8_80, m8_90, m8_92, m8_95, m8_97, m8_101, m8_112, m8_122, m8, orO_some, andO_some, Option.bind_some, getD_drop]
    rw [iteT]
    rcases hl with h | h
    · rw [ltT (by omega)]; rfl
    · rw [ltT (a := 50) (by omega), Bool.or_true]
  have hl1 : 1 ≤ w.length := by omega
  have hl2 : w.length ≤ 50 := by omega
  have hne : w ≠ [] := List.length_pos_iff.1 hl1
  rw [show orO (decide ((w.length : Int) < 1)) (some (decide ((50 : Int) < (w.length : Int)))) = some false by rw [decide_eq_false (by omega), decide_eq_false (by omega)]; rfl, Option.bind_some, if_neg (by simp)]
  obtain ⟨r, g1, g2⟩ := names_loop w true (by omega)
  rw [g1, Option.bind_some]
  rcases g2 with rfl | ⟨rfl, hw, h2⟩
  · rfl
  show emendlaw04_DirectNames_j1 w true () = some true
  unfold emendlaw04_DirectNames_j1
  have e1 : ([35, 105, 110, 99, 108, 117, 100, 101, 32, 34] : List UInt8) ++ w ++ [34, 10] = 35 :: 105 :: 110 :: 99 :: 108 :: 117 :: 100 :: 101 :: 32 :: 34 :: (w ++ [34, 10]) := rfl
  have e2 : emendlaw04_DirectNames_l0 ++ w ++ [62, 32, 47, 47, 32, 120] = 35 :: 32 :: 32 :: 105 :: 110 :: 99 :: 108 :: 117 :: 100 :: 101 :: 32 :: 60 :: (w ++ 62 :: [32, 47, 47, 32, 120]) := by unfold emendlaw04_DirectNames_l0; rfl
  have e3 : emendlaw04_DirectNames_l0.length = 12 := by unfold emendlaw04_DirectNames_l0; rfl
  rw [e1, e2]
  rw [chkT (by simp only [List.length_cons, List.length_nil]; omega), chkT (by simp only [List.length_append, List.length_cons, List.length_nil]; omega)]
  rw [first_eq _ (by simp only [List.length_append, List.length_cons, List.length_nil]; omega), Option.bind_some]
  rw [first_target _ (by simp only [List.length_append, List.length_cons, List.length_nil]; omega), Option.bind_some, target_quoted w hw]
  rw [chkT (by rw [e3]; omega), chkT (by rw [List.length_append, e3]; simp only [List.length_cons, List.length_nil]; omega)]
  rw [first_eq _ (by simp only [List.length_append, List.length_cons, List.length_nil]; omega), Option.bind_some]
  rw [first_target _ (by simp only [List.length_append, List.length_cons, List.length_nil]; omega), Option.bind_some, arrow_loop w hne (by omega), Option.bind_some]
  unfold emendlaw04_DirectNames_j3
  by_cases ha : w.getLast? = some 45
  · rw [decide_eq_true ha]
    simp [andO, orO]
  · rw [decide_eq_false ha, target_angled w hw hne h2 ha]
    simp [andO, orO]
end Go.Sh
