/-
  PptokCovers in plain words. No program in sight.
-/
import Derived.Test.YtogbccggnjidpaaDoorB2
set_option linter.unusedVariables false
set_option linter.unusedSimpArgs false
namespace Go.Sh
open Go
/-- a text parted at one of its bytes -/
theorem charsAt_split : ∀ (t : List UInt8) (i j : Nat), j < (charsAt i t).length → ∃ a : Nat, atOf (charsAt i t) j = ((i + a : Nat) : Int) ∧ a < t.length ∧ charsAt i (t.take a) = (charsAt i t).take j ∧ charsAt i (t.take (a + 1)) = (charsAt i t).take (j + 1) ∧ charsAt (i + a) (t.drop a) = (charsAt i t).drop j ∧ charsAt (i + a + 1) (t.drop (a + 1)) = (charsAt i t).drop (j + 1)
  | [], i, j, h => by simp [charsAt] at h
  | [c], i, j, h => by
    have hj : j = 0 := by simp [charsAt] at h; exact h
    subst hj
    exact ⟨0, by simp [charsAt, atOf], by simp, rfl, rfl, rfl, rfl⟩
  | c :: d :: r, i, j, h => by
    rw [charsAt_cd] at h ⊢
    by_cases hp : c = 92 ∧ d = 10
    · rw [if_pos hp] at h ⊢
      obtain ⟨a, h1, h2, h3, h4, h5, h6⟩ := charsAt_split r (i + 2) j h
      have tk2 : ∀ n, charsAt i ((c :: d :: r).take (n + 2)) = charsAt (i + 2) (r.take n) := fun n => by
        rw [List.take_succ_cons, List.take_succ_cons, charsAt_cd, if_pos hp]
      refine ⟨a + 2, by rw [h1]; congr 1; omega, by simp only [List.length_cons]; omega, by rw [tk2, h3], by rw [show a + 2 + 1 = a + 1 + 2 by omega, tk2, h4], ?_, ?_⟩
      · rw [← h5, show i + (a + 2) = i + 2 + a by omega]; rfl
      · rw [← h6, show i + (a + 2) + 1 = i + 2 + a + 1 by omega]; rfl
    · rw [if_neg hp] at h ⊢
      have tk1 : ∀ n, charsAt i ((c :: d :: r).take (n + 1)) = ⟨c, i⟩ :: charsAt (i + 1) ((d :: r).take n) := fun n => by
        cases n with
        | zero => rfl
        | succ n => rw [List.take_succ_cons, List.take_succ_cons, charsAt_cd, if_neg hp]
      cases j with
      | zero =>
        refine ⟨0, by simp [atOf], by simp, rfl, by rw [tk1]; rfl, ?_, rfl⟩
        simp only [List.drop_zero, Nat.add_zero]
        rw [charsAt_cd, if_neg hp]
      | succ j =>
        rw [List.length_cons] at h
        obtain ⟨a, h1, h2, h3, h4, h5, h6⟩ := charsAt_split (d :: r) (i + 1) j (by omega)
        refine ⟨a + 1, ?_, by simp only [List.length_cons] at h2 ⊢; omega, by rw [tk1, h3, List.take_succ_cons], by rw [tk1, h4, List.take_succ_cons], ?_, ?_⟩
        · unfold atOf at h1 ⊢
          rw [List.getElem?_cons_succ, h1]; congr 1; omega
        · rw [List.drop_succ_cons, List.drop_succ_cons, ← h5, show i + (a + 1) = i + 1 + a by omega]
        · show charsAt (i + (a + 1) + 1) ((d :: r).drop (a + 1)) = (charsAt (i + 1) (d :: r)).drop (j + 1)
          rw [← h6, show i + (a + 1) + 1 = i + 1 + a + 1 by omega]
theorem toks_none {i j : Nat} {b c : Bool} (n : Nat) : ∀ (u : List UInt8), u.length ≤ n → ∀ {i j : Nat} {b c : Bool}, toks i b u = [] → toks j c u = [] := by
  induction n with
  | zero =>
    intro u h i j b c _
    have : u = [] := List.length_eq_zero_iff.1 (by omega)
    subst this; exact toks_nil _ _
  | succ n ih =>
    intro u h i j b c e
    by_cases hu : u = []
    · subst hu; exact toks_nil _ _
    by_cases hb : 0 < blankLen u
    · rw [toks_blank hb] at e ⊢
      exact ih _ (by rw [List.length_drop]; omega) e
    · rw [toks_tok hu (by omega)] at e; cases e
theorem lineLen_take : ∀ (u : List UInt8) (m : Nat), lineLen u ≤ m → lineLen (u.take m) = lineLen u
  | [], m, _ => by simp
  | c :: r, 0, h => by
    unfold lineLen at h; split at h
    · rename_i e; simp [lineLen, e]
    · omega
  | c :: r, m + 1, h => by
    rw [List.take_succ_cons]
    unfold lineLen at h ⊢; split at h
    · rename_i e; rw [if_pos e, if_pos e]
    · rename_i e; rw [if_neg e, if_neg e, lineLen_take r m (by omega)]
theorem blockLen_take : ∀ (u : List UInt8) (m n : Nat), blockLen u = some n → n ≤ m → blockLen (u.take m) = some n
  | [], m, n, h, _ => by simp [blockLen] at h
  | [c], m, n, h, _ => by simp [blockLen] at h
  | c :: d :: r, m, n, h, hm => by
    have hl := blockLen_le _ n h
    obtain ⟨m, rfl⟩ : ∃ k, m = k + 2 := ⟨m - 2, by omega⟩
    rw [List.take_succ_cons, List.take_succ_cons]
    simp only [blockLen] at h ⊢
    by_cases hp : c = 42 ∧ d = 47
    · rw [if_pos hp] at h ⊢; exact h
    · rw [if_neg hp] at h ⊢
      obtain ⟨k, h1, rfl⟩ := Option.map_eq_some_iff.1 h
      have := blockLen_take (d :: r) (m + 1) k h1 (by omega)
      rw [List.take_succ_cons] at this
      rw [this]; rfl
/-- a blank that is cut behind its end -/
theorem blankLen_take (u : List UInt8) (m : Nat) (h : 0 < blankLen u) (hm : blankLen u ≤ m) : blankLen (u.take m) = blankLen u := by
  cases u with
  | nil => simp
  | cons c r =>
    obtain ⟨m, rfl⟩ : ∃ k, m = k + 1 := ⟨m - 1, by omega⟩
    rw [List.take_succ_cons]
    simp only [blankLen] at h hm ⊢
    by_cases hw : isWS c = true
    · rw [if_pos hw, if_pos hw]
    rw [if_neg hw] at h hm ⊢
    rw [if_neg hw]
    by_cases hl : c = 47 ∧ r.head? = some 47
    · rw [if_pos hl] at h hm ⊢
      have h2 : lineLen r ≤ m := by omega
      have h3 : (r.take m).head? = some 47 := by
        cases r with
        | nil => exact absurd hl.2 (by simp)
        | cons d r2 =>
          have : 1 ≤ lineLen (d :: r2) := by
            have hd : d = 47 := by simpa using hl.2
            rw [hd]; simp [lineLen]
          obtain ⟨m, rfl⟩ : ∃ k, m = k + 1 := ⟨m - 1, by omega⟩
          rw [List.take_succ_cons]; exact hl.2
      rw [if_pos ⟨hl.1, h3⟩, lineLen_take r m h2]
    rw [if_neg hl] at h hm ⊢
    by_cases hb : c = 47 ∧ r.head? = some 42
    · rw [if_pos hb] at h hm ⊢
      cases hbl : blockLen (r.drop 1) with
      | none => rw [hbl] at h; exact absurd h (Nat.lt_irrefl _)
      | some n =>
        rw [hbl] at h hm
        simp only at h hm
        have hn := blockLen_le _ n hbl
        cases r with
        | nil => exact absurd hb.2 (by simp)
        | cons d r2 =>
          obtain ⟨m, rfl⟩ : ∃ k, m = k + 1 := ⟨m - 1, by omega⟩
          rw [List.take_succ_cons]
          have hd : d = 42 := by simpa using hb.2
          rw [if_neg (by rw [hd]; simp), if_pos ⟨hb.1, hb.2⟩]
          simp only [List.drop_succ_cons, List.drop_zero] at hbl ⊢
          rw [blockLen_take r2 m n hbl (by omega)]
    · rw [if_neg hb] at h; exact absurd h (Nat.lt_irrefl _)
/-- what stands ahead of the first token is no token -/
theorem toks_ahead (n : Nat) : ∀ (i : Nat) (b : Bool) (u : List UInt8) (p : PT) (r : List PT) (k : Nat), u.length ≤ n → toks i b u = p :: r → p.i = i + k → ∀ j c, toks j c (u.take k) = [] := by
  induction n with
  | zero =>
    intro i b u p r k h e
    have : u = [] := List.length_eq_zero_iff.1 (by omega)
    subst this; rw [toks_nil] at e; cases e
  | succ n ih =>
    intro i b u p r k h e hk j c
    by_cases hu : u = []
    · subst hu; rw [toks_nil] at e; cases e
    by_cases hb : 0 < blankLen u
    · rw [toks_blank hb] at e
      obtain ⟨k', m, h1, _⟩ := toks_head _ _ _ _ p r (Nat.le_refl _) e
      have hle : blankLen u ≤ k := by omega
      have hbt := blankLen_take u k hb hle
      rw [toks_blank (by omega), hbt, List.drop_take]
      exact ih (i + blankLen u) true (u.drop (blankLen u)) p r (k - blankLen u) (by rw [List.length_drop]; omega) e (by omega) _ _
    · rw [toks_tok hu (by omega)] at e
      injection e with e1 e2
      subst e1
      have : k = 0 := by simp only at hk; omega
      subst this; rw [List.take_zero]; exact toks_nil _ _
theorem tokens_none (t : List UInt8) (h : toks 0 false ((charsAt 0 t).map GChar.b) = []) : tokens 0 t = [] := by unfold tokens; rw [h]; rfl
theorem pptokCovers_law (t : List UInt8) : emendlaw03_PptokCovers t = some true := by
  unfold emendlaw03_PptokCovers
  rw [awake3, Option.bind_some]
  by_cases hl : 1000 < t.length
  · rw [if_pos (decide_eq_true (by omega))]
  rw [if_neg (by rw [decide_eq_false (by omega)]; simp), tokens_eq 0 t (by omega), Option.bind_some]
  obtain ⟨l, hL⟩ : ∃ l, l = charsAt 0 t := ⟨_, rfl⟩
  obtain ⟨u, hU⟩ : ∃ u, u = l.map GChar.b := ⟨_, rfl⟩
  obtain ⟨ts, hT⟩ : ∃ ts, ts = toks 0 false u := ⟨_, rfl⟩
  have hul : u.length = l.length := by rw [hU, List.length_map]
  have hr2 : tokens 0 t = ts.map (tokOf 0 l) := by unfold tokens; rw [← hL, ← hU, ← hT]
  rw [hr2]
  have hcl := charsAt_len t 0
  rw [← hL] at hcl
  have htl : ts.length ≤ u.length := by rw [hT]; exact toks_length _ _ _ _ (Nat.le_refl _)
  obtain ⟨r, g1, last, rfl, hlt, hend⟩ := loopS_ix (f := emendlaw03_PptokCovers_b2 t (ts.map (tokOf 0 l))) ts.length (by omega)
    (fun n x => ∃ (k last : Nat), x.1 = (last : Int) ∧ x.2 = (n : Int) ∧ k ≤ l.length ∧ last ≤ t.length ∧ charsAt last (t.drop last) = l.drop k ∧ toks k false (u.drop k) = ts.drop n)
    (fun r => ∃ last : Nat, r = .inl (last : Int) ∧ last ≤ t.length ∧ tokens 0 (t.drop last) = []) (s0 := ((0 : Int), (0 : Int))) ⟨0, 0, rfl, rfl, Nat.zero_le _, Nat.zero_le _, by rw [hL]; rfl, by rw [hT]; rfl⟩ (by
    rintro n ⟨la, nn⟩ hn ⟨k, last, h1, h2, hk, hla, hcut, htk⟩
    simp only at h1 h2; subst h1; subst h2
    left
    have hd : ts.drop n = ts[n] :: ts.drop (n + 1) := List.drop_eq_getElem_cons hn
    obtain ⟨p, hp⟩ : ∃ p, p = ts[n] := ⟨_, rfl⟩
    rw [hd, ← hp] at htk
    obtain ⟨k', m, q1, q2, q3, q4, q5, q6, q7, q8, q9, q10⟩ := toks_head _ _ _ _ p _ (Nat.le_refl _) htk
    have hahead := toks_ahead _ _ _ _ p _ k' (Nat.le_refl _) htk q1
    rw [List.length_drop] at q4
    rw [List.drop_drop] at q5 q10
    have hix : ix (ts.map (tokOf 0 l)) (n : Int) = some (tokOf 0 l p) := by
      rw [ix_nat, List.getElem?_map, List.getElem?_eq_getElem hn, ← hp]; rfl
    -- where it begins
    have hatk : ∀ j, atOf (l.drop k) j = atOf l (k + j) := fun j => by unfold atOf; rw [List.getElem?_drop]
    obtain ⟨a, s1, s2, s3, s4, s5, s6⟩ := charsAt_split (t.drop last) last k' (by rw [hcut, List.length_drop]; omega)
    rw [hcut] at s1 s3 s5
    rw [hatk] at s1
    rw [List.length_drop] at s2
    rw [List.drop_drop, List.drop_drop] at s5
    have hfrom : (tokOf 0 l p).from_ = ((last + a : Nat) : Int) := by simp only [tokOf]; rw [q1, s1]
    -- where it ends
    have hatk2 : ∀ j, atOf (l.drop (k + k')) j = atOf l (k + k' + j) := fun j => by unfold atOf; rw [List.getElem?_drop]
    obtain ⟨a2, v1, v2, v3, v4, v5, v6⟩ := charsAt_split (t.drop (last + a)) (last + a) (m - 1) (by rw [s5, List.length_drop]; omega)
    rw [s5] at v1 v4 v6
    rw [hatk2] at v1
    rw [List.length_drop] at v2
    rw [show m - 1 + 1 = m by omega, List.drop_drop, List.drop_drop] at v6
    rw [show m - 1 + 1 = m by omega] at v4
    have hto : (tokOf 0 l p).to = ((last + a + a2 + 1 : Nat) : Int) := by
      simp only [tokOf]; rw [q2, show k + k' + m - 1 = k + k' + (m - 1) by omega, v1]; rfl
    have htext : (tokOf 0 l p).text = (u.drop (k + k')).take m := q5
    have hown : (charsAt 0 ((t.drop (last + a)).take (a2 + 1))).map GChar.b = (u.drop (k + k')).take m := by
      rw [charsAt_shift _ 0 (last + a), v4, List.map_take, List.map_drop, ← hU]
    have hbet : tokens 0 ((t.drop last).take a) = [] := by
      apply tokens_none
      rw [charsAt_shift _ 0 last, s3, List.map_take, List.map_drop, ← hU]
      exact hahead 0 false
    refine ⟨(((last + a + a2 + 1 : Nat) : Int), ((n + 1 : Nat) : Int)), ?_, k + k' + m, last + a + a2 + 1, rfl, rfl, by omega, by omega, by rw [show last + a + a2 + 1 = last + a + (a2 + 1) by omega]; exact v6, ?_⟩
    · unfold emendlaw03_PptokCovers_b2
      simp only [hix, chkB, andB, orB, condAnd, condOr, iteB, neqB, nltB, nleB, m8_9, m8_10, m8_11, m8_12, m8_13, m8_32, m8_34, m8_35, m8_39, m8_40, m8_41, m8_42, m8_43, m8_44, m8_45, m8_46, m8_47, m8_48, m8_60, m8_62, m8_64, m8_65, m8_67, m8_69, m8_80, m8_90, m8_92, m8_95, m8_97, m8_101, m8_112, m8_122, m8, orO_some, andO_some, Option.bind_some, getD_drop]
      rw [iteT (ltT (by simp only [List.length_map]; omega)), hfrom, hto]
      have hne : ¬ (tokOf 0 l p).text = [] := by
        rw [htext]; intro e
        have := congrArg List.length e
        rw [List.length_take, List.length_drop] at this
        simp at this; omega
      rw [iteF (by rw [ltF (by omega), leF (by omega), ltF (by omega), eqF hne]; rfl), pk (by omega)]
      simp only [Int.toNat_natCast]
      rw [show last + a + a2 + 1 - (last + a) = a2 + 1 by omega, show last + a - last = a by omega]
      rw [refJoin_eq _ (by rw [List.length_take, List.length_drop]; omega), Option.bind_some, refText_eq _ (by have := charsAt_len ((t.drop (last + a)).take (a2 + 1)) 0; rw [List.length_take, List.length_drop] at this; omega), Option.bind_some, pk (by omega), tokens_eq 0 _ (by rw [List.length_take, List.length_drop]; omega), Option.bind_some, hown, hbet, htext]
      rw [iteF (by rw [eqT rfl]; rfl), pk (by omega)]; rfl
    · rw [q10, q2, ← Nat.add_assoc]) (by
    rintro ⟨la, nn⟩ ⟨k, last, h1, h2, hk, hla, hcut, htk⟩
    simp only at h1 h2; subst h1; subst h2
    refine ⟨.inl (last : Int), ?_, last, rfl, hla, ?_⟩
    · unfold emendlaw03_PptokCovers_b2
      simp only [chkB, andB, orB, condAnd, condOr, iteB, neqB, nltB, nleB, m8_9, m8_10, m8_11, m8_12, m8_13, m8_32, m8_34, m8_35, m8_39, m8_40, m8_41, m8_42, m8_43, m8_44, m8_45, m8_46, m8_47, m8_48, m8_60, m8_62, m8_64, m8_65, m8_67, m8_69, m8_80, m8_90, m8_92, m8_95, m8_97, m8_101, m8_112, m8_122, m8, orO_some, andO_some, Option.bind_some, getD_drop]
      exact iteF (ltF (by simp only [List.length_map]; omega))
    · apply tokens_none
      rw [charsAt_shift _ 0 last, hcut, List.map_drop, ← hU]
      rw [List.drop_length] at htk
      exact toks_none (i := 0) (j := 0) (b := false) (c := false) _ _ (Nat.le_refl _) htk)
  rw [g1, Option.bind_some]
  show emendlaw03_PptokCovers_j1 t true (last : Int) = some true
  unfold emendlaw03_PptokCovers_j1
  rw [chkT (by omega), Int.toNat_natCast, tokens_eq 0 _ (by rw [List.length_drop]; omega), Option.bind_some, hend]
  rfl
end Go.Sh
