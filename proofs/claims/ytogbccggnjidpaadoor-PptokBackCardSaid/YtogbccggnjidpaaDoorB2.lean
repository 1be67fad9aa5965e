/-
  PptokPairs, PptokLines in plain words. No program in sight.
-/
import Derived.Test.YtogbccggnjidpaaDoorB1
import Derived.Test.YtogbccggnjidpaaDoorA9
set_option linter.unusedVariables false
set_option linter.unusedSimpArgs false
namespace Go.Sh
open Go
def ptk (p : PT) : Int × List UInt8 × Bool := (p.kind, p.text, p.blank)
theorem tk_tokOf (file : Int) (l : List GChar) (p : PT) : tk (tokOf file l p) = ptk p := rfl
theorem tokens_tk (file : Int) (t : List UInt8) : (tokens file t).map tk = (toks 0 false ((charsAt 0 t).map GChar.b)).map ptk := by
  unfold tokens; rw [List.map_map]; rfl
theorem toks_shift (n : Nat) : ∀ (i j : Nat) (b : Bool) (u : List UInt8), u.length ≤ n → (toks i b u).map ptk = (toks j b u).map ptk := by
  induction n with
  | zero =>
    intro i j b u h
    have : u = [] := List.length_eq_zero_iff.1 (by omega)
    subst this; rw [toks_nil, toks_nil]
  | succ n ih =>
    intro i j b u h
    by_cases hu : u = []
    · subst hu; rw [toks_nil, toks_nil]
    by_cases hb : 0 < blankLen u
    · rw [toks_blank hb, toks_blank hb]
      exact ih _ _ _ _ (by rw [List.length_drop]; omega)
    · have := nextTok_pos u
      rw [toks_tok hu (by omega), toks_tok hu (by omega), List.map_cons, List.map_cons, ih _ (j + (nextTok u).2) _ _ (by rw [List.length_drop]; omega)]; rfl
theorem charsAt_no92 : ∀ (s : List UInt8) (j : Nat), (∀ c ∈ s, c ≠ 92) → (charsAt j s).map GChar.b = s
  | [], j, _ => rfl
  | c :: r, j, h => by rw [charsAt_cons (h c (by simp)), List.map_cons, charsAt_no92 r (j + 1) (fun c hc => h c (by simp [hc]))]
theorem charsAt_shift : ∀ (s : List UInt8) (i j : Nat), (charsAt i s).map GChar.b = (charsAt j s).map GChar.b
  | [], i, j => rfl
  | [c], i, j => rfl
  | c :: d :: r, i, j => by
    unfold charsAt; split
    · exact charsAt_shift r _ _
    · rw [List.map_cons, List.map_cons, charsAt_shift (d :: r) _ (j + 1)]
/-- a loop that stops at the first byte of this kind -/
theorem loop_byte {f : Int → Option (Step Int (Sum Unit Bool))} (s : List UInt8) (x : UInt8) (hn : s.length ≤ 2000000)
    (step : ∀ (k : Nat) (h : k < s.length), f k = if s[k] = x then some (.done (.inr true)) else some (.next ((k + 1 : Nat) : Int)))
    (last : f s.length = some (.done (.inl ()))) : (loopS f 0 = some (.inr true)) ∨ (loopS f 0 = some (.inl ()) ∧ ∀ c ∈ s, c ≠ x) := by
  have := loopS_find (f := f) s (fun c => c == x) true hn (fun k hk => by rw [step k hk]; simp only [beq_iff_eq]) last
  rw [this]
  by_cases h : s.any (fun c => c == x) = true
  · left; rw [if_pos h]
  · right
    refine ⟨by rw [if_neg h], fun c hc e => h (List.any_eq_true.2 ⟨c, hc, by rw [e]; simp⟩)⟩
theorem pptokPairs_law (t : List UInt8) (ps : List Int) : emendlaw03_PptokPairs t ps = some true := by
  unfold emendlaw03_PptokPairs
  rw [awake3, Option.bind_some, orO_some, Option.bind_some]
  by_cases hl : 500 < t.length ∨ 30 < ps.length
  · rw [if_pos (by simp; omega)]
  rw [if_neg (by simp; omega)]
  rcases loop_byte (f := emendlaw03_PptokPairs_b2 t true) t 92 (by omega) (fun k hk => by
      unfold emendlaw03_PptokPairs_b2
      simp only [ix_at hk, chkB, andB, orB, condAnd, condOr, iteB, neqB, nltB, nleB, m8_9, m8_10, m8_11, m8_12, m8_13, m8_32, m8_34, m8_35, m8_39, m8_40, m8_41, m8_42, m8_43, m8_44, m8_45, m8_46, m8_47, m8_48, m8_60, m8_62, m8_64, m8_65, m8_67, m8_69, m8_80, m8_90, m8_92, m8_95, m8_97, m8_101, m8_112, m8_122, m8, orO_some, andO_some, Option.bind_some, getD_drop]
      rw [iteT (ltT (by omega))]
      by_cases h : t[k] = 92
      · rw [iteT (eqT h), if_pos h]
      · rw [iteF (eqF h), if_neg h, pk (by omega)]; rfl) (by
      unfold emendlaw03_PptokPairs_b2
      rw [if_neg (by simp)]) with h | ⟨h, hs⟩
  · rw [h]; rfl
  rw [h, Option.bind_some]
  show emendlaw03_PptokPairs_j1 t ps true () = some true
  unfold emendlaw03_PptokPairs_j1
  have hb := spread_bound ps t (by omega) (by omega) 0
  have h1 := tokens_len 0 t
  rw [tokens_eq 0 t (by omega), Option.bind_some, refSpread_eq t ps (by omega) (by omega), Option.bind_some, tokens_eq 0 _ (by omega), Option.bind_some, ralike_eq _ _ (by omega)]
  rw [tokens_tk, tokens_tk, charsAt_spread ps t 0 0 hs, charsAt_no92 t 0 hs]
  simp [andO]

/-! ### a line's end ends what is ahead of it -/
theorem wordTail_nl (v : List UInt8) : ∀ u : List UInt8, wordTail (u ++ 10 :: v) = wordTail u
  | [] => by simp only [List.nil_append, wordTail]; rw [if_neg (by decide)]
  | c :: r => by simp only [List.cons_append, wordTail, wordTail_nl v r]
theorem numTail_nl (v : List UInt8) (n : Nat) : ∀ u : List UInt8, u.length ≤ n → numTail (u ++ 10 :: v) = numTail u := by
  induction n with
  | zero =>
    intro u h
    have : u = [] := List.length_eq_zero_iff.1 (by omega)
    subst this
    rw [List.nil_append, numTail_cons, if_neg (by rw [show isExp 10 = false by decide]; simp), if_neg (by decide)]; rfl
  | succ n ih =>
    intro u h
    cases u with
    | nil => rw [List.nil_append, numTail_cons, if_neg (by rw [show isExp 10 = false by decide]; simp), if_neg (by decide)]; rfl
    | cons c r =>
      rw [List.length_cons] at h
      rw [List.cons_append, numTail_cons, numTail_cons, ih r (by omega)]
      cases r with
      | nil =>
        rw [List.nil_append, List.headD_cons, List.headD_nil, show isPM 10 = false by decide, show isPM 0 = false by decide]
        simp
      | cons d r2 =>
        rw [List.cons_append, List.headD_cons, List.headD_cons, List.drop_succ_cons, List.drop_zero, List.drop_succ_cons, List.drop_zero, ih r2 (by simp only [List.length_cons] at h; omega)]
theorem quoTail_nl (q : UInt8) (hq : q ≠ 10) (v : List UInt8) (n : Nat) : ∀ u : List UInt8, u.length ≤ n → quoTail q (u ++ 10 :: v) = quoTail q u := by
  induction n with
  | zero =>
    intro u h
    have : u = [] := List.length_eq_zero_iff.1 (by omega)
    subst this
    rw [List.nil_append, quoTail_cons, if_neg (Ne.symm hq), if_pos rfl]; rfl
  | succ n ih =>
    intro u h
    cases u with
    | nil => rw [List.nil_append, quoTail_cons, if_neg (Ne.symm hq), if_pos rfl]; rfl
    | cons c r =>
      rw [List.length_cons] at h
      rw [List.cons_append, quoTail_cons, quoTail_cons, ih r (by omega)]
      cases r with
      | nil => simp
      | cons d r2 =>
        rw [List.cons_append, List.head?_cons, List.head?_cons, List.drop_succ_cons, List.drop_zero, List.drop_succ_cons, List.drop_zero, ih r2 (by simp only [List.length_cons] at h; omega)]
        simp
theorem prefix_nl (v : List UInt8) : ∀ (p u : List UInt8), (∀ c ∈ p, c ≠ 10) → p.isPrefixOf (u ++ 10 :: v) = p.isPrefixOf u
  | [], u, _ => by simp
  | x :: p, [], h => by simp [List.isPrefixOf, h x (by simp)]
  | x :: p, c :: u, h => by simp only [List.cons_append, List.isPrefixOf, prefix_nl v p u (fun c hc => h c (by simp [hc]))]
theorem any_congr_ {α : Type} {f g : α → Bool} : ∀ (l : List α), (∀ x ∈ l, f x = g x) → l.any f = l.any g
  | [], _ => rfl
  | x :: l, h => by rw [List.any_cons, List.any_cons, h x (by simp), any_congr_ l (fun y hy => h y (by simp [hy]))]
theorem nextTok_nl (u v : List UInt8) (hu : u ≠ []) : nextTok (u ++ 10 :: v) = nextTok u := by
  have h0 : (u ++ 10 :: v).head? = u.head? := by cases u with | nil => exact absurd rfl hu | cons c r => rfl
  have h1 : wordLen (u ++ 10 :: v) = wordLen u := by
    cases u with
    | nil => exact absurd rfl hu
    | cons c r => simp only [List.cons_append, wordLen, wordTail_nl]
  have h2 : numLen (u ++ 10 :: v) = numLen u := by
    cases u with
    | nil => exact absurd rfl hu
    | cons c r =>
      simp only [List.cons_append, numLen, numTail_nl v _ r (Nat.le_refl _)]
      cases r with
      | nil => rw [List.nil_append, List.headD_cons, List.headD_nil, show isDigit 10 = false by decide, show isDigit 0 = false by decide]
      | cons d r2 => rfl
  have h3 : ∀ q, q = 34 ∨ q = 39 → quoLen q (u ++ 10 :: v) = quoLen q u := by
    intro q hq
    have hq10 : q ≠ 10 := by rcases hq with rfl | rfl <;> decide
    cases u with
    | nil => exact absurd rfl hu
    | cons c r =>
      simp only [List.cons_append, quoLen, quoTail_nl q hq10 v _ r (Nat.le_refl _)]
      cases r with
      | nil => simp [Ne.symm hq10]
      | cons d r2 => rfl
  have h4 : signLen (u ++ 10 :: v) = signLen u := by
    unfold signLen
    rw [any_congr_ three (fun p hp => prefix_nl v p u ((by decide : ∀ p ∈ three, ∀ c ∈ p, c ≠ 10) p hp)), any_congr_ two (fun p hp => prefix_nl v p u ((by decide : ∀ p ∈ two, ∀ c ∈ p, c ≠ 10) p hp)), h0]
  unfold nextTok
  rw [h0, h1, h2, h3 34 (.inl rfl), h3 39 (.inr rfl), h4]
theorem blankLen_nl (u v : List UInt8) (hu : u ≠ []) (h47 : ∀ c ∈ u, c ≠ 47) : blankLen (u ++ 10 :: v) = blankLen u := by
  cases u with
  | nil => exact absurd rfl hu
  | cons c r =>
    have hc := h47 c (by simp)
    simp only [List.cons_append, blankLen, hc, false_and, if_false]
theorem toks_line (v : List UInt8) (n : Nat) : ∀ (i j : Nat) (b : Bool) (u : List UInt8), u.length ≤ n → (∀ c ∈ u, c ≠ 47) → ∃ i2 b2, (toks i b (u ++ 10 :: v)).map ptk = (toks j b u).map ptk ++ (toks i2 b2 (10 :: v)).map ptk := by
  induction n with
  | zero =>
    intro i j b u h _
    have : u = [] := List.length_eq_zero_iff.1 (by omega)
    subst this
    exact ⟨i, b, by rw [toks_nil]; rfl⟩
  | succ n ih =>
    intro i j b u h h47
    by_cases hu : u = []
    · subst hu; exact ⟨i, b, by rw [toks_nil]; rfl⟩
    have hu2 : u ++ 10 :: v ≠ [] := by simp
    have hbl := blankLen_nl u v hu h47
    have h48 : ∀ m, ∀ c ∈ u.drop m, c ≠ 47 := fun m c hc => h47 c (List.mem_of_mem_drop hc)
    by_cases hb : 0 < blankLen u
    · have hle := blankLen_le u
      rw [toks_blank (by omega), toks_blank hb, hbl, List.drop_append_of_le_length hle]
      exact ih _ _ _ _ (by rw [List.length_drop]; omega) (h48 _)
    · have hp := nextTok_pos u
      have hle := nextTok_le u hu
      rw [toks_tok hu2 (by omega), toks_tok hu (by omega), nextTok_nl u v hu, List.drop_append_of_le_length hle, List.take_append_of_le_length hle]
      obtain ⟨i2, b2, e⟩ := ih (i + (nextTok u).2) (j + (nextTok u).2) false _ (by rw [List.length_drop]; omega) (h48 (nextTok u).2)
      exact ⟨i2, b2, by rw [List.map_cons, e]; rfl⟩
theorem charsAt_cd (i : Nat) (c d : UInt8) (r : List UInt8) : charsAt i (c :: d :: r) = if c = 92 ∧ d = 10 then charsAt (i + 2) r else ⟨c, i⟩ :: charsAt (i + 1) (d :: r) := by rw [charsAt]
theorem charsAt_line (b : List UInt8) : ∀ (a : List UInt8) (i : Nat), a.getLast? ≠ some 92 → (charsAt i (a ++ 10 :: b)).map GChar.b = (charsAt i a).map GChar.b ++ 10 :: (charsAt 0 b).map GChar.b
  | [], i, _ => by rw [List.nil_append, charsAt_cons (by decide), List.map_cons, charsAt_shift b _ 0]; rfl
  | [c], i, h => by
    have hc : c ≠ 92 := by simpa using h
    rw [List.cons_append, charsAt_cons hc, List.nil_append, charsAt_cons (by decide), List.map_cons, List.map_cons, charsAt_shift b _ 0]; rfl
  | c :: d :: r, i, h => by
    rw [List.cons_append, List.cons_append, charsAt_cd, charsAt_cd]
    split
    · refine charsAt_line b r (i + 2) ?_
      intro e; apply h
      cases r with
      | nil => cases e
      | cons x y => simpa using e
    · rw [List.map_cons, List.map_cons, ← List.cons_append, charsAt_line b (d :: r) (i + 1) (by simpa using h)]; rfl
theorem charsAt_mem : ∀ (t : List UInt8) (i : Nat), ∀ c ∈ (charsAt i t).map GChar.b, c ∈ t
  | [], i, c, h => by simp [charsAt] at h
  | [x], i, c, h => by simpa [charsAt] using h
  | x :: y :: r, i, c, h => by
    unfold charsAt at h
    split at h
    · have := charsAt_mem r _ c h; simp [this]
    · rw [List.map_cons] at h
      rcases List.mem_cons.1 h with rfl | h
      · simp
      · have := charsAt_mem (y :: r) _ c h
        exact List.mem_cons_of_mem _ this
theorem pptokLines_law (a b : List UInt8) : emendlaw03_PptokLines a b = some true := by
  unfold emendlaw03_PptokLines
  simp only [awake3, chkB, andB, orB, condAnd, condOr, iteB, neqB, nltB, nleB, m8_9, m8_10, m8_11, m8_12, m8_13, m8_32, m8_34, m8_35, m8_39, m8_40, m8_41, m8_42, m8_43, m8_44, m8_45, m8_46, m8_47, m8_48, m8_60, m8_62, m8_64, m8_65, m8_67, m8_69, m8_80, m8_90, m8_92, m8_95, m8_97, m8_101, m8_112, m8_122, m8, orO_some, andO_some, Option.bind_some, getD_drop]
  by_cases hl : 500 < a.length ∨ 500 < b.length
  · have e : (ilt 500 (a.length : Int) || ilt 500 (b.length : Int)) = true := by
      rcases hl with h | h
      · rw [ltT (by omega)]; rfl
      · rw [ltT (b := (b.length : Int)) (by omega), Bool.or_true]
    simp only [e, cond_true, Option.bind_some]
  have e : (ilt 500 (a.length : Int) || ilt 500 (b.length : Int)) = false := by rw [ltF (by omega), ltF (by omega)]; rfl
  simp only [e, cond_false]
  -- the last byte of the first text
  have hlast : (cond (ilt 0 (a.length : Int)) (pchk (I64 ((a.length : Int) - 1)) ((ix a ((a.length : Int) - 1)).bind fun ch_1 => some (ch_1 == 92))) (some false)) = some (a.getLast? == some 92) := by
    by_cases h0 : a.length = 0
    · have : a = [] := List.length_eq_zero_iff.1 h0
      subst this; rfl
    · rw [iteT (ltT (by omega)), pk (by omega), ix_of (k := a.length - 1) (List.getElem?_eq_getElem (by omega)) (by omega), Option.bind_some, List.getLast?_eq_getElem?, List.getElem?_eq_getElem (by omega)]
      congr 1
  simp only [hlast, Option.bind_some]
  by_cases h92 : a.getLast? = some 92
  · rw [iteT (by rw [h92]; rfl)]
  rw [iteF (by simpa using h92)]
  rcases loop_byte (f := emendlaw03_PptokLines_b2 a true) a 47 (by omega) (fun k hk => by
      unfold emendlaw03_PptokLines_b2
      simp only [ix_at hk, chkB, andB, orB, condAnd, condOr, iteB, neqB, nltB, nleB, m8_9, m8_10, m8_11, m8_12, m8_13, m8_32, m8_34, m8_35, m8_39, m8_40, m8_41, m8_42, m8_43, m8_44, m8_45, m8_46, m8_47, m8_48, m8_60, m8_62, m8_64, m8_65, m8_67, m8_69, m8_80, m8_90, m8_92, m8_95, m8_97, m8_101, m8_112, m8_122, m8, orO_some, andO_some, Option.bind_some, getD_drop]
      rw [iteT (ltT (by omega))]
      by_cases h : a[k] = 47
      · rw [iteT (eqT h), if_pos h]
      · rw [iteF (eqF h), if_neg h, pk (by omega)]; rfl) (by
      unfold emendlaw03_PptokLines_b2
      rw [if_neg (by simp)]) with h | ⟨h, hs⟩
  · rw [h]; rfl
  rw [h, Option.bind_some]
  show emendlaw03_PptokLines_j1 a b true () = some true
  unfold emendlaw03_PptokLines_j1
  have h1 := tokens_len 0 a
  have h2 := tokens_len 0 b
  have hab : ((a ++ [10]) ++ b) = a ++ 10 :: b := by simp
  have h3 := tokens_len 0 (a ++ 10 :: b)
  have hlen : (a ++ 10 :: b).length = a.length + b.length + 1 := by simp; omega
  have hlen2 : (a ++ [10]).length = a.length + 1 := by simp
  rw [tokens_eq 0 a (by omega), Option.bind_some, tokens_eq 0 b (by omega), Option.bind_some, chkT (by simp only [List.length_cons, List.length_nil]; omega), chkT (by omega), hab, tokens_eq 0 _ (by omega), Option.bind_some, chkT (by omega), chkT (by omega)]
  -- what stands there
  obtain ⟨i2, b2, key⟩ := toks_line ((charsAt 0 b).map GChar.b) _ 0 0 false ((charsAt 0 a).map GChar.b) (Nat.le_refl _) (fun c hc => hs c (charsAt_mem a 0 c hc))
  rw [← charsAt_line b a 0 h92, ← tokens_tk 0, ← tokens_tk 0] at key
  have hnl : (toks i2 b2 (10 :: (charsAt 0 b).map GChar.b)).map ptk = (7, [10], b2) :: (tokens 0 b).map tk := by
    have hn : nextTok (10 :: (charsAt 0 b).map GChar.b) = (7, 1) := if_pos rfl
    rw [toks_tok (by simp) (by rfl), tokens_tk, hn, List.map_cons, toks_shift _ (i2 + 1) 0 _ _ (Nat.le_refl _)]; rfl
  rw [hnl] at key
  generalize hN : tokens 0 (a ++ 10 :: b) = n at *
  generalize hL : tokens 0 a = l at *
  generalize hM : tokens 0 b = m at *
  have hkl : n.length = l.length + m.length + 1 := by
    have := congrArg List.length key
    simp only [List.length_map, List.length_append, List.length_cons] at this; omega
  have k1 : (n.take l.length).map tk = l.map tk := by
    rw [List.map_take, key, List.take_left' (by simp)]
  have k2 : (n.drop (l.length + 1)).map tk = m.map tk := by
    rw [List.map_drop, key, ← List.drop_drop, List.drop_left' (by simp)]; rfl
  have hlt : l.length < n.length := by omega
  have k3 : n[l.length].kind = 7 := by
    have h5 : (n.map tk)[l.length]? = some (7, [10], b2) := by rw [key, List.getElem?_append_right (by simp)]; simp
    rw [List.getElem?_map, List.getElem?_eq_getElem hlt] at h5
    simp only [Option.map_some, Option.some.injEq, tk, Prod.mk.injEq] at h5
    exact h5.1
  have e1 : ((l.length : Int) + (m.length : Int) + 1) = ((l.length + m.length + 1 : Nat) : Int) := by push_cast; rfl
  have e2 : ((l.length : Int) + 1) = ((l.length + 1 : Nat) : Int) := rfl
  rw [if_neg (by simp; omega), chkT (by omega)]
  simp only [e2, Int.toNat_natCast]
  rw [ralike_eq _ _ (by rw [List.length_take]; omega), decide_eq_true k1]
  simp only [ix_at hlt, Option.bind_some, k3]
  rw [show andO true (some true) = some true from rfl, Option.bind_some, show andO true (some (decide True)) = some true from by simp [andO], Option.bind_some, chkT (by omega), chkT (by omega), ralike_eq _ _ (by rw [List.length_drop]; omega), decide_eq_true k2]
  rfl
end Go.Sh
