/-
  The document's words for tokens compute the same: signs, blanks, what stands next; a text's tokens, by both. No program in sight.
-/
import Derived.Test.YtfocleohejljpaaDoorA5
set_option linter.unusedVariables false
set_option linter.unusedSimpArgs false
namespace Go.Sh
open Go
/-- a loop that looks for one of a list -/
theorem loopS_find {α ρ : Type} {f : Int → Option (Step Int (Sum Unit ρ))} (l : List α) (p : α → Bool) (v : ρ) (hn : l.length ≤ 2000000)
    (step : ∀ (k : Nat) (h : k < l.length), f k = if p l[k] = true then some (.done (.inr v)) else some (.next ((k + 1 : Nat) : Int)))
    (last : f l.length = some (.done (.inl ()))) : loopS f 0 = some (if l.any p = true then .inr v else .inl ()) := by
  obtain ⟨r, h1, h2⟩ := loopS_ix (f := f) l.length (by omega) (fun k x => x = (k : Int) ∧ (l.take k).any p = false) (fun r => r = if l.any p = true then .inr v else .inl ()) (s0 := (0 : Int)) ⟨rfl, rfl⟩ (by
    rintro k x hk ⟨rfl, h⟩
    rw [step k hk]
    by_cases hp : p l[k] = true
    · right
      refine ⟨_, if_pos hp, ?_⟩
      rw [if_pos (List.any_eq_true.2 ⟨l[k], List.getElem_mem hk, hp⟩)]
    · left
      refine ⟨_, if_neg hp, rfl, ?_⟩
      rw [List.take_add_one, List.getElem?_eq_getElem hk, List.any_append, h]
      simp [hp]) (by
    rintro x ⟨rfl, h⟩
    rw [List.take_length] at h
    refine ⟨_, last, ?_⟩
    rw [h]; rfl)
  rw [h1, h2]
theorem rsign_eq (s : List UInt8) (i : Nat) (hi : i < s.length) (hs : s.length ≤ 2000000) : emendref03_sign s i = some (signLen (s.drop i) : Int) := by
  have a1 : loopS (emendref03_sign_b2 s i) 0 = some (if three.any (fun p => p.isPrefixOf (s.drop i)) = true then .inr 3 else .inl ()) :=
    loopS_find three _ 3 (by decide) (fun k hk => by
      unfold emendref03_sign_b2
      have hk2 : (k : Int) < 3 := by have : three.length = 3 := rfl; omega
      have hp : three[k].length = 3 := (by decide : ∀ y ∈ three, y.length = 3) _ (List.getElem_mem hk)
      refine Eq.trans (if_pos (decide_eq_true (show (k : Int) < ((three.length : Nat) : Int) from by omega))) ?_
      show (ix three (k : Int)).bind _ = _
      rw [ix_at hk, Option.bind_some, is_eq s _ i (by omega) hs (by omega), Option.bind_some, chkT (by omega)]; rfl) (by
      unfold emendref03_sign_b2
      exact if_neg (by decide))
  have a2 : loopS (emendref03_sign_b4 s i) 0 = some (if two.any (fun p => p.isPrefixOf (s.drop i)) = true then .inr 2 else .inl ()) :=
    loopS_find two _ 2 (by decide) (fun k hk => by
      unfold emendref03_sign_b4
      have hk2 : (k : Int) < 20 := by have : two.length = 20 := rfl; omega
      have hp : two[k].length = 2 := (by decide : ∀ y ∈ two, y.length = 2) _ (List.getElem_mem hk)
      refine Eq.trans (if_pos (decide_eq_true (show (k : Int) < ((two.length : Nat) : Int) from by omega))) ?_
      show (ix two (k : Int)).bind _ = _
      rw [ix_at hk, Option.bind_some, is_eq s _ i (by omega) hs (by omega), Option.bind_some, chkT (by omega)]; rfl) (by
      unfold emendref03_sign_b4
      exact if_neg (by decide))
  have a3 : loopS (emendref03_sign_b6 s i) 0 = some (if ones.any (fun c => (s.drop i).head? == some c) = true then .inr 1 else .inl ()) :=
    loopS_find ones _ 1 (by decide) (fun k hk => by
      unfold emendref03_sign_b6
      have hk2 : (k : Int) < 25 := by have : ones.length = 25 := rfl; omega
      rcases drop_cases s i with ⟨h1, h2⟩ | ⟨c, h1, h2, h3⟩
      · omega
      refine Eq.trans (if_pos (decide_eq_true (show (k : Int) < ((ones.length : Nat) : Int) from by omega))) ?_
      rw [ix_of h3 rfl, Option.bind_some]
      show (ix ones (k : Int)).bind _ = _
      rw [ix_at hk, Option.bind_some, chkT (by omega), h2]
      simp only [List.head?_cons]
      by_cases hc : c = ones[k]
      · rw [if_pos (decide_eq_true (by rw [hc]))]; simp [hc]
      · rw [if_neg (by rw [decide_eq_false (fun h => hc ((u8i _ _).1 h))]; simp)]; simp [hc]) (by
      unfold emendref03_sign_b6
      exact if_neg (by decide))
  unfold emendref03_sign signLen
  rw [a1, Option.bind_some]
  by_cases h1 : three.any (fun p => p.isPrefixOf (s.drop i)) = true
  · rw [if_pos h1, if_pos h1]; rfl
  rw [if_neg h1, if_neg h1]
  show emendref03_sign_j1 s i () = _
  unfold emendref03_sign_j1
  rw [a2, Option.bind_some]
  by_cases h1 : two.any (fun p => p.isPrefixOf (s.drop i)) = true
  · rw [if_pos h1, if_pos h1]; rfl
  rw [if_neg h1, if_neg h1]
  show emendref03_sign_j3 s i () = _
  unfold emendref03_sign_j3
  rw [a3, Option.bind_some]
  by_cases h1 : ones.any (fun c => (s.drop i).head? == some c) = true
  · rw [if_pos h1, if_pos h1]; rfl
  rw [if_neg h1, if_neg h1]; rfl
theorem rnext_eq (s : List UInt8) (i : Nat) (hi : i < s.length) (hs : s.length ≤ 2000000) : emendref03_next s i = some ((nextTok (s.drop i)).1, ((nextTok (s.drop i)).2 : Int)) := by
  unfold emendref03_next nextTok
  rcases drop_cases s i with ⟨h1, h2⟩ | ⟨c, h1, h2, h3⟩
  · omega
  simp only [ix_of h3 rfl, rword_eq s i (by omega) hs, rnumber_eq s i hi hs, rquoted_eq s i 34 hi hs (by decide) (by decide), rquoted_eq s i 39 hi hs (by decide) (by decide), rsign_eq s i hi hs, chkB, andB, orB, condAnd, condOr, iteB, neqB, nltB, nleB, m8_9, m8_10, m8_11, m8_12, m8_13, m8_32, m8_34, m8_35, m8_39, m8_40, m8_41, m8_42, m8_43, m8_44, m8_45, m8_46, m8_47, m8_48, m8_60, m8_62, m8_64, m8_65, m8_67, m8_69, m8_80, m8_90, m8_92, m8_95, m8_97, m8_101, m8_112, m8_122, m8, orO_some, andO_some, Option.bind_some, getD_drop]
  by_cases h0 : c = 10
  · rw [iteT (eqT h0), if_pos (by rw [h2, h0]; rfl)]; rfl
  rw [iteF (eqF h0), if_neg (by rw [h2]; simpa using h0)]
  by_cases h1 : 0 < wordLen (s.drop i)
  · rw [iteT (ltT (by omega)), if_pos h1]
  rw [iteF (ltF (by omega)), if_neg h1]
  by_cases h1 : 0 < numLen (s.drop i)
  · rw [iteT (ltT (by omega)), if_pos h1]
  rw [iteF (ltF (by omega)), if_neg h1]
  by_cases h1 : 0 < quoLen 34 (s.drop i)
  · rw [iteT (ltT (by omega)), if_pos h1]
  rw [iteF (ltF (by omega)), if_neg h1]
  by_cases h1 : 0 < quoLen 39 (s.drop i)
  · rw [iteT (ltT (by omega)), if_pos h1]
  rw [iteF (ltF (by omega)), if_neg h1]
  by_cases h1 : 0 < signLen (s.drop i)
  · rw [iteT (ltT (by omega)), if_pos h1]
  rw [iteF (ltF (by omega)), if_neg h1]; rfl
theorem ws_eq (c : UInt8) : ((c == 32 || c == 9) || (ile 11 c.toNat && ile c.toNat 13)) = isWS c := by
  unfold isWS
  have e : (ile 11 c.toNat && ile c.toNat 13) = (c == 11 || c == 12 || c == 13) := by
    rw [Bool.eq_iff_iff]
    simp only [Bool.and_eq_true, Bool.or_eq_true, beq_iff_eq, ile, decide_eq_true_eq]
    constructor
    · rintro ⟨h1, h2⟩
      have h3 : c.toNat = 11 ∨ c.toNat = 12 ∨ c.toNat = 13 := by omega
      rcases h3 with h | h | h
      · exact .inl (.inl (UInt8.toNat_inj.1 h))
      · exact .inl (.inr (UInt8.toNat_inj.1 h))
      · exact .inr (UInt8.toNat_inj.1 h)
    · rintro ((rfl | rfl) | rfl) <;> decide
  rw [e]; simp only [Bool.or_assoc]
theorem rblank_eq (s : List UInt8) (i : Nat) (hi : i < s.length) (hs : s.length ≤ 2000000) : emendref03_blank s i = some ((i + blankLen (s.drop i) : Nat) : Int) := by
  unfold emendref03_blank
  rcases drop_cases s i with ⟨h1, h2⟩ | ⟨c, h1, h2, h3⟩
  · omega
  have e1 : ((i : Int) + 1) = ((i + 1 : Nat) : Int) := rfl
  have e2 : ((i : Int) + 2) = ((i + 2 : Nat) : Int) := rfl
  simp only [ix_of h3 rfl, is_eq s [47, 47] i (by omega) hs (by decide), is_eq s [47, 42] i (by omega) hs (by decide), e1, e2, chkB, andB, orB, condAnd, condOr, iteB, neqB, nltB, nleB, m8_9, m8_10, m8_11, m8_12, m8_13, m8_32, m8_34, m8_35, m8_39, m8_40, m8_41, m8_42, m8_43, m8_44, m8_45, m8_46, m8_47, m8_48, m8_60, m8_62, m8_64, m8_65, m8_67, m8_69, m8_80, m8_90, m8_92, m8_95, m8_97, m8_101, m8_112, m8_122, m8, orO_some, andO_some, Option.bind_some, getD_drop, ws_eq]
  rw [h2]
  by_cases hw : isWS c = true
  · rw [iteT hw, pk (by omega)]
    simp only [blankLen, if_pos hw]
  have hw : isWS c = false := by simpa using hw
  rw [iteF hw]
  by_cases hl : ([47, 47] : List UInt8).isPrefixOf (c :: s.drop (i + 1)) = true
  · obtain ⟨r, hr⟩ := (prefix2 _ _ _).1 hl
    have e : blankLen (c :: s.drop (i + 1)) = lineLen (c :: s.drop (i + 1)) := by
      rw [hr]; simp [blankLen, lineLen, isWS]
    rw [iteT hl, e, ← h2]
    have key := loopS_of (f := emendref03_blank_b2 s) (fun n => ∃ k : Nat, n = k ∧ i ≤ k ∧ k ≤ s.length) (fun n => s.length - n.toNat) (fun n => n + ((lineLen (s.drop n.toNat) : Nat) : Int)) (s := (i : Int)) ⟨i, rfl, by omega, by omega⟩ (by omega) (by
      rintro n ⟨k, rfl, hk1, hk⟩
      unfold emendref03_blank_b2
      simp only [chkB, andB, orB, condAnd, condOr, iteB, neqB, nltB, nleB, m8_9, m8_10, m8_11, m8_12, m8_13, m8_32, m8_34, m8_35, m8_39, m8_40, m8_41, m8_42, m8_43, m8_44, m8_45, m8_46, m8_47, m8_48, m8_60, m8_62, m8_64, m8_65, m8_67, m8_69, m8_80, m8_90, m8_92, m8_95, m8_97, m8_101, m8_112, m8_122, m8, orO_some, andO_some, Option.bind_some, getD_drop, Int.toNat_natCast]
      rcases drop_cases s k with ⟨f1, f2⟩ | ⟨d, f1, f2, f3⟩
      · right
        rw [iteF (ltF (by omega)), f1]; rfl
      · rw [iteT (ltT (by omega)), ix_of f3 rfl]
        simp only [chkB, andB, orB, condAnd, condOr, iteB, neqB, nltB, nleB, m8_9, m8_10, m8_11, m8_12, m8_13, m8_32, m8_34, m8_35, m8_39, m8_40, m8_41, m8_42, m8_43, m8_44, m8_45, m8_46, m8_47, m8_48, m8_60, m8_62, m8_64, m8_65, m8_67, m8_69, m8_80, m8_90, m8_92, m8_95, m8_97, m8_101, m8_112, m8_122, m8, orO_some, andO_some, Option.bind_some, getD_drop]
        by_cases hd : d = 10
        · right
          rw [iteF (by rw [eqT hd]; rfl), f2, hd]; rfl
        · left
          refine ⟨((k + 1 : Nat) : Int), ?_, ⟨k + 1, rfl, by omega, by omega⟩, by omega, ?_⟩
          · rw [iteT (by rw [eqF hd]; rfl), pk (by omega)]; rfl
          · rw [f2, show lineLen (d :: s.drop (k + 1)) = 1 + lineLen (s.drop (k + 1)) from if_neg hd, Int.toNat_natCast]; push_cast; omega)
    rw [key, Option.bind_some, Int.toNat_natCast]; rfl
  have hl' : ¬ (c = 47 ∧ (s.drop (i + 1)).head? = some 47) := by
    rintro ⟨rfl, h⟩
    apply hl
    cases hd : s.drop (i + 1) with
    | nil => rw [hd] at h; cases h
    | cons d r => rw [hd] at h; injection h with h; subst h; rfl
  rw [iteF (Bool.eq_false_iff.2 hl)]
  by_cases hb : ([47, 42] : List UInt8).isPrefixOf (c :: s.drop (i + 1)) = true
  · obtain ⟨r, hr⟩ := (prefix2 _ _ _).1 hb
    injection hr with hr1 hr2
    have h5 : i + 2 ≤ s.length := by
      have := congrArg List.length hr2
      simp only [List.length_drop, List.length_cons] at this; omega
    have h6 : s.drop (i + 2) = r := by
      have := congrArg (List.drop 1) hr2
      rw [List.drop_drop] at this; simpa using this
    rw [iteT hb, pk (by omega)]
    have key := loopS_of (f := emendref03_blank_b5 s) (fun n => ∃ k : Nat, n = k ∧ i + 2 ≤ k ∧ k ≤ s.length) (fun n => s.length - n.toNat) (fun n => match blockLen (s.drop n.toNat) with | none => Sum.inl () | some m => Sum.inr (n + (m : Int))) (s := ((i + 2 : Nat) : Int)) ⟨i + 2, rfl, by omega, by omega⟩ (by omega) (by
      rintro n ⟨k, rfl, hk1, hk⟩
      unfold emendref03_blank_b5
      have e1 : ((k : Int) + 1) = ((k + 1 : Nat) : Int) := rfl
      simp only [is_eq s [42, 47] k (by omega) hs (by decide), chkB, andB, orB, condAnd, condOr, iteB, neqB, nltB, nleB, m8_9, m8_10, m8_11, m8_12, m8_13, m8_32, m8_34, m8_35, m8_39, m8_40, m8_41, m8_42, m8_43, m8_44, m8_45, m8_46, m8_47, m8_48, m8_60, m8_62, m8_64, m8_65, m8_67, m8_69, m8_80, m8_90, m8_92, m8_95, m8_97, m8_101, m8_112, m8_122, m8, orO_some, andO_some, Option.bind_some, getD_drop, Int.toNat_natCast, e1]
      rcases drop_cases s k with ⟨f1, f2⟩ | ⟨d, f1, f2, f3⟩
      · right
        rw [iteF (ltF (by omega)), f1]; rfl
      · rw [iteT (ltT (by omega)), f2]
        by_cases hp : ([42, 47] : List UInt8).isPrefixOf (d :: s.drop (k + 1)) = true
        · right
          obtain ⟨q, hq⟩ := (prefix2 _ _ _).1 hp
          rw [iteT hp, pk (by omega), hq]
          simp [blockLen]
        · left
          refine ⟨((k + 1 : Nat) : Int), ?_, ⟨k + 1, rfl, by omega, by omega⟩, by omega, ?_⟩
          · rw [iteF (Bool.eq_false_iff.2 hp), pk (by omega)]
          · rw [Int.toNat_natCast]
            have hb2 : blockLen (d :: s.drop (k + 1)) = (blockLen (s.drop (k + 1))).map (· + 1) := by
              cases hd : s.drop (k + 1) with
              | nil => rfl
              | cons x y =>
                rw [hd] at hp
                exact if_neg (fun h => hp (by rw [h.1, h.2]; rfl))
            rw [hb2]
            cases blockLen (s.drop (k + 1)) with
            | none => rfl
            | some m => show Sum.inr (((k + 1 : Nat) : Int) + (m : Int)) = Sum.inr ((k : Int) + ((m + 1 : Nat) : Int)); congr 1; push_cast; omega)
    rw [key, Option.bind_some, Int.toNat_natCast, h6]
    cases hbl : blockLen r with
    | none =>
      have e : blankLen (c :: s.drop (i + 1)) = 0 := by rw [hr2, hr1]; simp [blankLen, isWS, hbl]
      rw [e]; rfl
    | some n =>
      have e : blankLen (c :: s.drop (i + 1)) = n + 2 := by rw [hr2, hr1]; simp [blankLen, isWS, hbl]
      rw [e]
      show some (((i + 2 : Nat) : Int) + (n : Int)) = some ((i + (n + 2) : Nat) : Int)
      congr 1; push_cast; omega
  · have hb' : ¬ (c = 47 ∧ (s.drop (i + 1)).head? = some 42) := by
      rintro ⟨rfl, h⟩
      apply hb
      cases hd : s.drop (i + 1) with
      | nil => rw [hd] at h; cases h
      | cons d r => rw [hd] at h; injection h with h; subst h; rfl
    rw [iteF (Bool.eq_false_iff.2 hb)]
    have e : blankLen (c :: s.drop (i + 1)) = 0 := by
      simp only [blankLen, hw]
      rw [if_neg (by simp), if_neg hl', if_neg hb']
    rw [e]; rfl

/-! ### a text's tokens -/
theorem toks_length (n : Nat) : ∀ (i : Nat) (b : Bool) (u : List UInt8), u.length ≤ n → (toks i b u).length ≤ u.length := by
  induction n with
  | zero =>
    intro i b u h
    have : u = [] := List.length_eq_zero_iff.1 (by omega)
    subst this; rw [toks_nil]; exact Nat.le_refl _
  | succ n ih =>
    intro i b u h
    by_cases hu : u = []
    · subst hu; rw [toks_nil]; exact Nat.le_refl _
    by_cases hb : 0 < blankLen u
    · rw [toks_blank hb]
      have := ih (i + blankLen u) true (u.drop (blankLen u)) (by rw [List.length_drop]; omega)
      rw [List.length_drop] at this; omega
    · rw [toks_tok hu (by omega), List.length_cons]
      have h1 := nextTok_pos u
      have h2 := nextTok_le u hu
      have := ih (i + (nextTok u).2) false (u.drop (nextTok u).2) (by rw [List.length_drop]; omega)
      rw [List.length_drop] at this; omega
def atOf (l : List GChar) (i : Nat) : Int := (l[i]?.map GChar.at_).getD 0
def tokOf (file : Int) (l : List GChar) (p : PT) : GTok := ⟨p.kind, p.text, file, atOf l p.i, atOf l (p.j - 1) + 1, p.blank⟩
def tokens (file : Int) (text : List UInt8) : List GTok := (toks 0 false ((charsAt 0 text).map GChar.b)).map (tokOf file (charsAt 0 text))
theorem atOf_get {l : List GChar} {i : Nat} (h : i < l.length) : ∃ y, l[i]? = some y ∧ y.at_ = atOf l i := ⟨l[i], List.getElem?_eq_getElem h, by unfold atOf; rw [List.getElem?_eq_getElem h]; rfl⟩
theorem charsAt_bound : ∀ (t : List UInt8) (i : Nat), ∀ c ∈ charsAt i t, (i : Int) ≤ c.at_ ∧ c.at_ < i + t.length
  | [], i, c, h => by simp [charsAt] at h
  | [x], i, c, h => by simp [charsAt] at h; subst h; simp only [List.length_cons, List.length_nil]; omega
  | x :: y :: r, i, c, h => by
    unfold charsAt at h
    split at h
    · have := charsAt_bound r (i + 2) c h
      simp only [List.length_cons]; push_cast at *; omega
    · rcases List.mem_cons.1 h with rfl | h
      · simp only [List.length_cons]; push_cast; omega
      · have := charsAt_bound (y :: r) (i + 1) c h
        simp only [List.length_cons] at *; push_cast at *; omega
theorem atOf_bound {t : List UInt8} {i : Nat} (h : i < (charsAt 0 t).length) : 0 ≤ atOf (charsAt 0 t) i ∧ atOf (charsAt 0 t) i < t.length := by
  obtain ⟨y, h1, h2⟩ := atOf_get h
  have := charsAt_bound t 0 y (List.mem_of_getElem? h1)
  rw [← h2]; push_cast at this; omega
theorem pass_eq (s : List UInt8) (t0 : GTok) (k0 : Nat) (hk0 : k0 ≤ s.length) (hs : s.length ≤ 2000000) (hb0 : t0.blank = false) :
    ∃ r, loopS pptok_Tokens_b3 (t0, ⟨s, k0⟩) = some r ∧ ∃ (k : Nat) (b : Bool), r = ({ t0 with blank := b }, ⟨s, k⟩) ∧ k0 ≤ k ∧ k ≤ s.length ∧ toks k b (s.drop k) = toks k0 false (s.drop k0) ∧ (k = s.length ∨ k < s.length ∧ blankLen (s.drop k) = 0) := by
  refine loopS_rel (f := pptok_Tokens_b3) (fun x => ∃ (k : Nat) (b : Bool), x = ({ t0 with blank := b }, ⟨s, k⟩) ∧ k0 ≤ k ∧ k ≤ s.length ∧ toks k b (s.drop k) = toks k0 false (s.drop k0)) (fun x => s.length - x.2.at_.toNat) _ (s := (t0, (⟨s, k0⟩ : GPptok_reader))) ⟨k0, false, by rw [← hb0], Nat.le_refl _, hk0, rfl⟩ (by simp only; omega) ?_
  rintro x ⟨k, b, rfl, hk1, hk, ht⟩
  unfold pptok_Tokens_b3
  simp only [blank_eq s k hk hs, chkB, andB, orB, condAnd, condOr, iteB, neqB, nltB, nleB, m8_9, m8_10, m8_11, m8_12, m8_13, m8_32, m8_34, m8_35, m8_39, m8_40, m8_41, m8_42, m8_43, m8_44, m8_45, m8_46, m8_47, m8_48, m8_60, m8_62, m8_64, m8_65, m8_67, m8_69, m8_80, m8_90, m8_92, m8_95, m8_97, m8_101, m8_112, m8_122, m8, orO_some, andO_some, Option.bind_some, getD_drop]
  by_cases hlt : k < s.length
  · rw [iteT (ltT (by omega))]
    have hle := blankLen_le (s.drop k)
    rw [List.length_drop] at hle
    by_cases hb : 0 < blankLen (s.drop k)
    · left
      refine ⟨_, iteT (decide_eq_true hb), ⟨k + blankLen (s.drop k), true, rfl, by omega, by omega, ?_⟩, by simp only; omega⟩
      rw [← ht, toks_blank hb, List.drop_drop]
    · right
      refine ⟨_, iteF (decide_eq_false hb), ⟨k, b, ?_, hk1, hk, ht, .inr ⟨hlt, by omega⟩⟩⟩
      rw [show blankLen (s.drop k) = 0 by omega]; rfl
  · right
    exact ⟨_, iteF (ltF (by omega)), ⟨k, b, rfl, hk1, hk, ht, .inl (by omega)⟩⟩
theorem tokens_eq (file : Int) (t : List UInt8) (ht : t.length ≤ 2000000) : pptok_Tokens file t = some (tokens file t) := by
  unfold pptok_Tokens
  have hcl := charsAt_len t 0
  rw [bind_of (spliceJoin_eq t ht), bind_of (spliceText_eq _ (by omega))]
  obtain ⟨l, hl⟩ : ∃ l, l = charsAt 0 t := ⟨_, rfl⟩
  obtain ⟨s, hs⟩ : ∃ s, s = l.map GChar.b := ⟨_, rfl⟩
  have hsl : s.length = l.length := by rw [hs, List.length_map]
  have hat : ∀ i, i < l.length → 0 ≤ atOf l i ∧ atOf l i < t.length := fun i hi => by rw [hl] at *; exact atOf_bound hi
  unfold tokens
  rw [← hl, ← hs]
  rw [← hl] at hcl
  have hall := toks_length _ 0 false s (Nat.le_refl _)
  obtain ⟨r, h1, rfl⟩ := loopS_rel (f := pptok_Tokens_b1 file l) (fun x => ∃ k : Nat, x.2 = ⟨s, k⟩ ∧ k ≤ s.length ∧ x.1 ++ (toks k false (s.drop k)).map (tokOf file l) = (toks 0 false s).map (tokOf file l)) (fun x => s.length - x.2.at_.toNat) (fun r => r = (toks 0 false s).map (tokOf file l)) (s := (([] : List GTok), (⟨s, (0 : Int)⟩ : GPptok_reader))) ⟨0, rfl, Nat.zero_le _, by simp⟩ (by simp only; omega) (by
    rintro ⟨out, r⟩ ⟨k0, hr, hk0, ho⟩
    simp only at hr ho; subst hr
    unfold pptok_Tokens_b1
    simp only
    obtain ⟨r, h1, k, b, rfl, hk1, hk, hto, hend⟩ := pass_eq s (GTok.mk 0 [] file 0 0 false) k0 hk0 (by omega) rfl
    rw [h1, Option.bind_some]
    unfold pptok_Tokens_j2
    rw [← hto] at ho
    simp only [next_eq s k hk (by omega), chkB, andB, orB, condAnd, condOr, iteB, neqB, nltB, nleB, m8_9, m8_10, m8_11, m8_12, m8_13, m8_32, m8_34, m8_35, m8_39, m8_40, m8_41, m8_42, m8_43, m8_44, m8_45, m8_46, m8_47, m8_48, m8_60, m8_62, m8_64, m8_65, m8_67, m8_69, m8_80, m8_90, m8_92, m8_95, m8_97, m8_101, m8_112, m8_122, m8, orO_some, andO_some, Option.bind_some, getD_drop]
    rcases hend with hend | ⟨hlt, hbl⟩
    · right
      refine ⟨out, iteT (leT (by omega)), ?_⟩
      rw [hend, List.drop_length, toks_nil] at ho
      simpa using ho
    · left
      have hne : s.drop k ≠ [] := fun h => by have := congrArg List.length h; rw [List.length_drop] at this; simp at this; omega
      rw [toks_tok hne hbl, List.map_cons] at ho
      have hn1 := nextTok_pos (s.drop k)
      have hn2 := nextTok_le (s.drop k) hne
      rw [List.length_drop] at hn2
      have hol := congrArg List.length ho
      simp only [List.length_append, List.length_cons, List.length_map] at hol
      obtain ⟨n, hn⟩ : ∃ n, n = (nextTok (s.drop k)).2 := ⟨_, rfl⟩
      rw [← hn] at hn1 hn2 ho ⊢
      have e1 : ((k : Int) + (n : Int)) = ((k + n : Nat) : Int) := rfl
      have e2 : (((k + n : Nat) : Int) - 1) = ((k + n - 1 : Nat) : Int) := by omega
      simp only [e1, e2, Int.toNat_natCast]
      obtain ⟨y1, g1, g2⟩ := atOf_get (l := l) (i := k) (by omega)
      obtain ⟨y2, g3, g4⟩ := atOf_get (l := l) (i := k + n - 1) (by omega)
      have b1 := hat k (by omega)
      have b2 := hat (k + n - 1) (by omega)
      refine ⟨(out ++ [tokOf file l ⟨(nextTok (s.drop k)).1, (s.drop k).take n, k, k + n, b⟩], ⟨s, ((k + n : Nat) : Int)⟩), ?_, ⟨k + n, rfl, by omega, ?_⟩, by simp only; omega⟩
      · rw [iteF (leF (by omega)), pk (by omega), pk (by omega), ix_of g1 rfl, Option.bind_some, pk (by omega), pk (by omega), ix_of g3 rfl, Option.bind_some, pk (by omega), pk (by omega), pk (by omega), show k + n - k = n by omega, g2, g4]
        rfl
      · rw [← ho, List.append_assoc, List.drop_drop]; rfl)
  rw [h1]; rfl
theorem rtokens_eq (file : Int) (t : List UInt8) (ht : t.length ≤ 2000000) : emendref03_Tokens file t = some (tokens file t) := by
  unfold emendref03_Tokens
  have hcl := charsAt_len t 0
  rw [bind_of (refJoin_eq t ht), bind_of (refText_eq _ (by omega))]
  obtain ⟨l, hl⟩ : ∃ l, l = charsAt 0 t := ⟨_, rfl⟩
  obtain ⟨s, hs⟩ : ∃ s, s = l.map GChar.b := ⟨_, rfl⟩
  have hsl : s.length = l.length := by rw [hs, List.length_map]
  have hat : ∀ i, i < l.length → 0 ≤ atOf l i ∧ atOf l i < t.length := fun i hi => by rw [hl] at *; exact atOf_bound hi
  unfold tokens
  rw [← hl, ← hs]
  rw [← hl] at hcl
  have hall := toks_length _ 0 false s (Nat.le_refl _)
  obtain ⟨r, h1, rfl⟩ := loopS_rel (f := emendref03_Tokens_b2 file l s) (fun x => ∃ k : Nat, x.1 = (k : Int) ∧ k ≤ s.length ∧ x.2.2 ++ (toks k x.2.1 (s.drop k)).map (tokOf file l) = (toks 0 false s).map (tokOf file l)) (fun x => s.length - x.1.toNat) (fun r => r = (toks 0 false s).map (tokOf file l)) (s := ((0 : Int), false, ([] : List GTok))) ⟨0, rfl, Nat.zero_le _, by simp⟩ (by simp only; omega) (by
    rintro ⟨i, b, out⟩ ⟨k, hr, hk, ho⟩
    simp only at hr ho; subst hr
    unfold emendref03_Tokens_b2
    by_cases hlt : k < s.length
    · left
      simp only [rblank_eq s k hlt (by omega), rnext_eq s k hlt (by omega), chkB, andB, orB, condAnd, condOr, iteB, neqB, nltB, nleB, m8_9, m8_10, m8_11, m8_12, m8_13, m8_32, m8_34, m8_35, m8_39, m8_40, m8_41, m8_42, m8_43, m8_44, m8_45, m8_46, m8_47, m8_48, m8_60, m8_62, m8_64, m8_65, m8_67, m8_69, m8_80, m8_90, m8_92, m8_95, m8_97, m8_101, m8_112, m8_122, m8, orO_some, andO_some, Option.bind_some, getD_drop]
      rw [iteT (ltT (by omega))]
      have hle := blankLen_le (s.drop k)
      rw [List.length_drop] at hle
      by_cases hb : 0 < blankLen (s.drop k)
      · refine ⟨_, iteT (ltT (by omega)), ⟨k + blankLen (s.drop k), rfl, by omega, ?_⟩, by simp only; omega⟩
        simp only
        rw [← ho, toks_blank hb, List.drop_drop]
      have hbl : blankLen (s.drop k) = 0 := by omega
      have hne : s.drop k ≠ [] := fun h => by have := congrArg List.length h; rw [List.length_drop] at this; simp at this; omega
      rw [toks_tok hne hbl, List.map_cons] at ho
      have hn1 := nextTok_pos (s.drop k)
      have hn2 := nextTok_le (s.drop k) hne
      rw [List.length_drop] at hn2
      have hol := congrArg List.length ho
      simp only [List.length_append, List.length_cons, List.length_map] at hol
      obtain ⟨n, hn⟩ : ∃ n, n = (nextTok (s.drop k)).2 := ⟨_, rfl⟩
      rw [← hn] at hn1 hn2 ho ⊢
      have e1 : ((k : Int) + (n : Int)) = ((k + n : Nat) : Int) := rfl
      have e2 : (((k + n : Nat) : Int) - 1) = ((k + n - 1 : Nat) : Int) := by omega
      simp only [e1, e2, Int.toNat_natCast]
      obtain ⟨y1, g1, g2⟩ := atOf_get (l := l) (i := k) (by omega)
      obtain ⟨y2, g3, g4⟩ := atOf_get (l := l) (i := k + n - 1) (by omega)
      have b1 := hat k (by omega)
      have b2 := hat (k + n - 1) (by omega)
      refine ⟨(((k + n : Nat) : Int), false, out ++ [tokOf file l ⟨(nextTok (s.drop k)).1, (s.drop k).take n, k, k + n, b⟩]), ?_, ⟨k + n, rfl, by omega, ?_⟩, by simp only; omega⟩
      · rw [iteF (ltF (by omega)), pk (by omega), pk (by omega), ix_of g1 rfl, Option.bind_some, pk (by omega), pk (by omega), ix_of g3 rfl, Option.bind_some, pk (by omega), pk (by omega), pk (by omega), show k + n - k = n by omega, g2, g4]
        rfl
      · simp only
        rw [← ho, List.append_assoc, List.drop_drop]; rfl
    · right
      obtain rfl : k = s.length := by omega
      refine ⟨out, ?_, ?_⟩
      · simp only [chkB, andB, orB, condAnd, condOr, iteB, neqB, nltB, nleB, m8_9, m8_10, m8_11, m8_12, m8_13, m8_32, m8_34, m8_35, m8_39, m8_40, m8_41, m8_42, m8_43, m8_44, m8_45, m8_46, m8_47, m8_48, m8_60, m8_62, m8_64, m8_65, m8_67, m8_69, m8_80, m8_90, m8_92, m8_95, m8_97, m8_101, m8_112, m8_122, m8, orO_some, andO_some, Option.bind_some, getD_drop]; exact iteF (ltF (by omega))
      · rw [List.drop_length, toks_nil] at ho
        simpa using ho)
  rw [h1]; rfl
end Go.Sh
