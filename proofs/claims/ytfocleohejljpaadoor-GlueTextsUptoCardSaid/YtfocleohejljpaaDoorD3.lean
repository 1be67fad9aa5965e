/-
  GlueAlone, GlueTexts in plain words: where what comes in is small. No program in sight.
-/
import Derived.Test.YtfocleohejljpaaDoorD2
set_option linter.unusedVariables false
set_option linter.unusedSimpArgs false
namespace Go.Sh
open Go
/-! ### a token alone -/
theorem blank_alone (t r : List UInt8) (ht : t ≠ []) (e : blankLen (t ++ r) = 0) (hn : (nextTok (t ++ r)).2 = t.length) : blankLen t = 0 := by
  cases t with
  | nil => exact absurd rfl ht
  | cons c t =>
    rw [List.cons_append] at e hn
    simp only [blankLen] at e ⊢
    by_cases hws : isWS c = true
    · rw [if_pos hws] at e; cases e
    rw [if_neg hws] at e ⊢
    cases t with
    | nil => simp
    | cons d t =>
      rw [List.cons_append, List.head?_cons] at e
      rw [List.head?_cons]
      by_cases h2 : c = 47 ∧ some d = some 47
      · rw [if_pos h2] at e; omega
      rw [if_neg h2]
      by_cases h3 : c = 47 ∧ some d = some 42
      · exfalso
        obtain ⟨rfl, h3⟩ := h3
        injection h3 with h3
        subst h3
        rw [List.cons_append, show (nextTok (47 :: 42 :: (t ++ r))).2 = 1 by kernel_rfl] at hn
        simp only [List.length_cons] at hn; omega
      · rw [if_neg h3]
theorem tok_alone (u : List UInt8) (hu : u ≠ []) (hb : blankLen u = 0) : toks 0 false (u.take (nextTok u).2) = [⟨(nextTok u).1, u.take (nextTok u).2, 0, (nextTok u).2, false⟩] ∧ has2 92 10 (u.take (nextTok u).2) = false := by
  have hp := nextTok_pos u
  have hle := nextTok_le u hu
  obtain ⟨k, n, hk⟩ : ∃ k n, nextTok u = (k, n) := ⟨_, _, rfl⟩
  have hs : k = 6 → n = 1 := by
    intro h6
    unfold nextTok at hk
    by_cases h1 : u.head? = some 10
    · rw [if_pos h1] at hk; injection hk with h _; omega
    rw [if_neg h1] at hk
    by_cases h1 : 0 < wordLen u
    · rw [if_pos h1] at hk; injection hk with h _; omega
    rw [if_neg h1] at hk
    by_cases h1 : 0 < numLen u
    · rw [if_pos h1] at hk; injection hk with h _; omega
    rw [if_neg h1] at hk
    by_cases h1 : 0 < quoLen 34 u
    · rw [if_pos h1] at hk; injection hk with h _; omega
    rw [if_neg h1] at hk
    by_cases h1 : 0 < quoLen 39 u
    · rw [if_pos h1] at hk; injection hk with h _; omega
    rw [if_neg h1] at hk
    by_cases h1 : 0 < signLen u
    · rw [if_pos h1] at hk; injection hk with h _; omega
    rw [if_neg h1] at hk
    injection hk with _ h; exact h.symm
  have hsafe : has2 92 10 (u.take (nextTok u).2) = false := by
    by_cases h6 : (nextTok u).1 = 6
    · rw [hk] at h6 ⊢
      have := hs h6
      subst this
      match u with
      | [] => rfl
      | c :: r => rfl
    · exact (tok_safe u hu h6).1
  refine ⟨?_, hsafe⟩
  rw [hk] at hp hle ⊢
  simp only at hp hle ⊢
  have hta : u.take n ++ u.drop n = u := List.take_append_drop _ _
  have hlen : (u.take n).length = n := by rw [List.length_take]; omega
  have hne : u.take n ≠ [] := by intro e; rw [e] at hlen; simp at hlen; omega
  have h1 : nextTok (u.take n ++ []) = (k, (u.take n).length) := nextTok_cut (Begins.nil (u.drop n)) (u.take n) hne k (.inr rfl) (by rw [hta, hk, hlen])
  have h2 : blankLen (u.take n) = 0 := blank_alone (u.take n) (u.drop n) hne (by rw [hta]; exact hb) (by rw [hta, hk, hlen])
  rw [List.append_nil, hlen] at h1
  rw [toks_tok hne h2, h1]
  simp only [Nat.zero_add]
  rw [List.take_of_length_le (show (u.take n).length ≤ n by omega), List.drop_of_length_le (show (u.take n).length ≤ n by omega), toks_nil]
def AloneTok (p : PT) : Prop := ∃ i j, toks 0 false p.text = [⟨p.kind, p.text, i, j, false⟩] ∧ has2 92 10 p.text = false
theorem toks_alone (n : Nat) : ∀ (i : Nat) (b : Bool) (u : List UInt8), u.length ≤ n → ∀ p ∈ toks i b u, AloneTok p := by
  induction n with
  | zero =>
    intro i b u h
    have : u = [] := List.length_eq_zero_iff.1 (by omega)
    subst this; rw [toks_nil]; intro p hp; cases hp
  | succ n ih =>
    intro i b u h
    by_cases hu : u = []
    · subst hu; rw [toks_nil]; intro p hp; cases hp
    by_cases hb : 0 < blankLen u
    · rw [toks_blank hb]
      exact ih _ _ _ (by rw [List.length_drop]; omega)
    have hp := nextTok_pos u
    rw [toks_tok hu (by omega)]
    intro p hp2
    rcases List.mem_cons.1 hp2 with rfl | hp2
    · obtain ⟨h1, h2⟩ := tok_alone u hu (by omega)
      exact ⟨_, _, h1, h2⟩
    · exact ih _ _ _ (by rw [List.length_drop]; omega) p hp2
theorem one_alone (file : Int) (s : List UInt8) (a : GTok) (ha : a ∈ tokens file s) : (a.kind = 7 → (oneOf a.text).2 = false) ∧ (a.kind ≠ 7 → (oneOf a.text).2 = true ∧ (oneOf a.text).1.kind = a.kind ∧ (oneOf a.text).1.text = a.text) := by
  unfold tokens at ha
  obtain ⟨p, hp, rfl⟩ := List.mem_map.1 ha
  obtain ⟨i, j, h1, h2⟩ := toks_alone _ _ _ _ (Nat.le_refl _) p hp
  have ht : tokens 0 p.text = [tokOf 0 (charsAt 0 p.text) ⟨p.kind, p.text, i, j, false⟩] := by
    unfold tokens; rw [charsAt_has2 _ _ h2, h1]; rfl
  simp only [tokOf]
  have e := oneOf_one ht
  constructor
  · intro h7
    rw [if_pos (Or.inl (show (tokOf 0 (charsAt 0 p.text) ⟨p.kind, p.text, i, j, false⟩).kind = 7 from h7))] at e
    rw [e]
  · intro h7
    rw [if_neg (by rintro (h | h); exact h7 h; exact h rfl)] at e
    rw [e]
    exact ⟨rfl, rfl, rfl⟩
theorem oneOf_text (s : List UInt8) (h : (oneOf s).2 = true) : (oneOf s).1.text = s := by
  unfold oneOf at h ⊢
  split at h
  · split at h
    · cases h
    · rename_i t _ h2
      rw [if_neg h2]
      exact Decidable.not_not.1 (fun e => h2 (.inr e))
  · cases h
theorem glueAlone_law (s : List UInt8) (i k : Int) (hs : s.length ≤ 2000000) : emendlaw07_GlueAlone s i k = some true := by
  unfold emendlaw07_GlueAlone
  have h1 := tokens_len 0 s
  have h2 := tokens_room 0 s
  simp only [awake7, tokens_eq 0 s hs, chkB, andB, orB, condAnd, condOr, iteB, neqB, nltB, nleB, m8_9, m8_10, m8_11, m8_12, m8_13, m8_32, m8_34, m8_35, m8_39, m8_40, m8_41, m8_42, m8_43, m8_44, m8_45, m8_46, m8_47, m8_48, m8_60, m8_62, m8_64, m8_65, m8_67, m8_69, m8_80, m8_90, m8_92, m8_95, m8_97, m8_101, m8_112, m8_122, m8, orO_some, andO_some, Option.bind_some, getD_drop]
  by_cases hc : (ilt 500 (s.length : Int) || ilt i 0 || ilt k 0 || ile ((tokens 0 s).length : Int) i || ile ((tokens 0 s).length : Int) k) = true
  · rw [iteT hc]
  rw [iteF (Bool.eq_false_iff.2 hc)]
  have hc := Bool.eq_false_iff.2 hc
  simp only [Bool.or_eq_false_iff] at hc
  obtain ⟨⟨⟨⟨c1, c2⟩, c3⟩, c4⟩, c5⟩ := hc
  simp only [ilt, ile, decide_eq_false_iff_not] at c1 c2 c3 c4 c5
  have gi : i.toNat < (tokens 0 s).length := by omega
  have gk : k.toNat < (tokens 0 s).length := by omega
  rw [ix_of (List.getElem?_eq_getElem gi) (by omega), Option.bind_some, ix_of (List.getElem?_eq_getElem gk) (by omega), Option.bind_some]
  have hmi : (tokens 0 s)[i.toNat] ∈ tokens 0 s := List.getElem_mem gi
  have hmk : (tokens 0 s)[k.toNat] ∈ tokens 0 s := List.getElem_mem gk
  generalize (tokens 0 s)[i.toNat] = a at *
  generalize (tokens 0 s)[k.toNat] = b at *
  have la : a.text.length ≤ 500 := by
    have := printT_sub1 hmi
    have e2 : a.text.length ≤ (printT [a]).length := by simp [printT, printOne]
    omega
  have lb : b.text.length ≤ 500 := by
    have := printT_sub1 hmk
    have e2 : b.text.length ≤ (printT [b]).length := by simp [printT, printOne]
    omega
  rw [gpaste_eq a b (by omega), Option.bind_some, gpaste_eq a _ (by simp only [List.length_nil]; omega), Option.bind_some]
  obtain ⟨o7, on7⟩ := one_alone 0 s a hmi
  have hown : pasteOf a ⟨0, [], 0, 0, 0, false⟩ = if a.kind = 7 then (zeroTok, 70) else (a, 0) := by
    unfold pasteOf
    simp only [List.append_nil]
    by_cases h7 : a.kind = 7
    · rw [if_pos h7, if_neg (by rw [o7 h7]; simp)]
    · obtain ⟨p1, p2, p3⟩ := on7 h7
      rw [if_neg h7, if_pos p1, p2, p3]
  rw [hown]
  have hwhole : (cond (!((pasteOf a b).2 == (0 : Int))) (some true) (pchk (a.text.length + b.text.length ≤ 9223372036854775807) (some ((((@BEq.beq _ instBEqOfDecidableEq (pasteOf a b).1.text (a.text ++ b.text) && (pasteOf a b).1.file_ == a.file_) && (pasteOf a b).1.from_ == a.from_) && (pasteOf a b).1.to == a.to) && (pasteOf a b).1.blank == a.blank)))) = some true := by
    unfold pasteOf
    by_cases h : (oneOf (a.text ++ b.text)).2 = true
    · rw [if_pos h]
      simp only
      rw [iteF (by rfl), pk (by omega), eqT (oneOf_text _ h)]
      simp
    · rw [if_neg h]; rfl
  rw [hwhole]
  simp only [Option.bind_some, chkB, andB, orB, condAnd, condOr, iteB, neqB, nltB, nleB, m8_9, m8_10, m8_11, m8_12, m8_13, m8_32, m8_34, m8_35, m8_39, m8_40, m8_41, m8_42, m8_43, m8_44, m8_45, m8_46, m8_47, m8_48, m8_60, m8_62, m8_64, m8_65, m8_67, m8_69, m8_80, m8_90, m8_92, m8_95, m8_97, m8_101, m8_112, m8_122, m8, orO_some, andO_some, Option.bind_some, getD_drop]
  by_cases h7 : a.kind = 7
  · rw [if_pos h7, eqT h7]; rfl
  · rw [if_neg h7, eqF h7]; simp
/-! ### by the document -/
/-- ahead of the first one nothing is put -/
theorem joinF_first (of : GTok → List UInt8) : ∀ (l : List GTok) (a b : Bool), joinF of a false l = joinF of b false l
  | [], _, _ => rfl
  | t :: r, a, b => by
    rw [joinF, joinF]
    by_cases h7 : t.kind = 7
    · rw [if_pos h7, if_pos h7]
    · rw [if_neg h7, if_neg h7]; rfl
theorem resc_loop (t : GTok) (hl : t.text.length ≤ 2000000000) : loopS (emendref07_escaped_b2 t) ([], 0) = some (escOf t) := by
  refine loopS_of (f := emendref07_escaped_b2 t) (fun x => ∃ k : Nat, x.2 = (k : Int) ∧ k ≤ t.text.length ∧ x.1.length ≤ 2 * k) (fun x => t.text.length - x.2.toNat) (fun x => x.1 ++ (if t.kind ≠ 4 ∧ t.kind ≠ 3 then t.text.drop x.2.toNat else esc (t.text.drop x.2.toNat))) (s := (([] : List UInt8), (0 : Int))) ⟨0, rfl, Nat.zero_le _, by simp⟩ (by simp only; omega) ?_
  rintro ⟨out, i⟩ ⟨k, e, hk, ho⟩
  simp only at e ho; subst e
  unfold emendref07_escaped_b2
  simp only [chkB, andB, orB, condAnd, condOr, iteB, neqB, nltB, nleB, m8_9, m8_10, m8_11, m8_12, m8_13, m8_32, m8_34, m8_35, m8_39, m8_40, m8_41, m8_42, m8_43, m8_44, m8_45, m8_46, m8_47, m8_48, m8_60, m8_62, m8_64, m8_65, m8_67, m8_69, m8_80, m8_90, m8_92, m8_95, m8_97, m8_101, m8_112, m8_122, m8, orO_some, andO_some, Option.bind_some, getD_drop, Int.toNat_natCast]
  by_cases hlt : k < t.text.length
  · left
    have hd : t.text.drop k = t.text[k] :: t.text.drop (k + 1) := List.drop_eq_getElem_cons hlt
    rw [iteT (ltT (by omega)), ix_at hlt, Option.bind_some, hd]
    have hj : ∀ o : List UInt8, o.length ≤ 2 * k + 1 → emendref07_escaped_j3 (k : Int) t.text[k] o = some (.next (o ++ [t.text[k]], ((k + 1 : Nat) : Int))) := by
      intro o ho
      unfold emendref07_escaped_j3
      rw [chkT (by simp only [List.length_cons, List.length_nil]; omega), chkT (by omega)]; rfl
    by_cases hc : t.text[k] = 92 ∨ t.text[k] = 34
    · have hb : (t.text[k] == 92 || t.text[k] == 34) = true := by
        rcases hc with h | h
        · rw [eqT h]; rfl
        · rw [eqT h, Bool.or_true]
      rw [hb]
      by_cases hkk : t.kind ≠ 4 ∧ t.kind ≠ 3
      · refine ⟨(out ++ [t.text[k]], ((k + 1 : Nat) : Int)), ?_, ⟨k + 1, rfl, by omega, by simp only [List.length_append, List.length_cons, List.length_nil]; omega⟩, by simp only; omega, ?_⟩
        · rw [iteF (by rw [eqF hkk.1, eqF hkk.2]; rfl), hj _ (by omega)]
        · simp only [Int.toNat_natCast]
          rw [if_pos hkk, if_pos hkk]; simp
      · refine ⟨((out ++ [92]) ++ [t.text[k]], ((k + 1 : Nat) : Int)), ?_, ⟨k + 1, rfl, by omega, by simp only [List.length_append, List.length_cons, List.length_nil]; omega⟩, by simp only; omega, ?_⟩
        · rw [iteT (by
            rcases Decidable.not_and_iff_or_not.1 hkk with h | h
            · rw [eqT (Decidable.not_not.1 h)]; rfl
            · rw [eqT (Decidable.not_not.1 h), Bool.or_true]; rfl), pk (by simp only [List.length_cons, List.length_nil]; omega), hj _ (by simp only [List.length_append, List.length_cons, List.length_nil]; omega)]
        · simp only [Int.toNat_natCast]
          rw [if_neg hkk, if_neg hkk, esc_cons, if_pos hc]; simp
    · have hb : (t.text[k] == 92 || t.text[k] == 34) = false := by
        rw [eqF (fun h => hc (.inl h)), eqF (fun h => hc (.inr h))]; rfl
      rw [hb]
      refine ⟨(out ++ [t.text[k]], ((k + 1 : Nat) : Int)), ?_, ⟨k + 1, rfl, by omega, by simp only [List.length_append, List.length_cons, List.length_nil]; omega⟩, by simp only; omega, ?_⟩
      · rw [Bool.false_and, iteF rfl, hj _ (by omega)]
      · simp only [Int.toNat_natCast]
        rw [esc_cons, if_neg hc]
        split <;> simp
  · right
    rw [iteF (ltF (by omega)), List.drop_of_length_le (by omega)]
    simp [esc]
theorem resc_eq (t : GTok) (hl : t.text.length ≤ 2000000000) : emendref07_escaped t = some (escOf t) := by
  unfold emendref07_escaped; rw [resc_loop t hl]; rfl
def ofQ (q : Bool) : GTok → List UInt8 := if q = true then escOf else GTok.text
theorem rtext_eq (l : List GTok) (q : Bool) (hl : l.length ≤ 2000000) (ht : ∀ t ∈ l, t.text.length ≤ 2000000000) (hb : (joinF (ofQ q) false false l).length ≤ 140737488355328) : emendref07_Text l q = some (joinF (ofQ q) false false l) := by
  unfold emendref07_Text
  have key : loopS (emendref07_Text_b2 l q) ([], -1, 0) = some (joinF (ofQ q) false false l) := by
    refine loopS_of (f := emendref07_Text_b2 l q) (fun x => ∃ k : Nat, x.2.2 = (k : Int) ∧ k ≤ l.length ∧ -1 ≤ x.2.1 ∧ x.2.1 < k ∧ x.1.length + (joinF (ofQ q) (ile 0 x.2.1 && ilt x.2.1 ((k : Int) - 1)) (ile 0 x.2.1) (l.drop k)).length ≤ 140737488355328) (fun x => l.length - x.2.2.toNat) (fun x => x.1 ++ joinF (ofQ q) (ile 0 x.2.1 && ilt x.2.1 (x.2.2 - 1)) (ile 0 x.2.1) (l.drop x.2.2.toNat)) (s := (([] : List UInt8), (-1 : Int), (0 : Int))) ⟨0, rfl, Nat.zero_le _, Int.le_refl _, by decide, by show 0 + (joinF (ofQ q) false false l).length ≤ 140737488355328; omega⟩ (by simp only; omega) ?_
    rintro ⟨out, last, i⟩ ⟨k, e, hk, hl1, hl2, hbd⟩
    simp only at e hl1 hl2 hbd; subst e
    unfold emendref07_Text_b2
    simp only [chkB, andB, orB, condAnd, condOr, iteB, neqB, nltB, nleB, m8_9, m8_10, m8_11, m8_12, m8_13, m8_32, m8_34, m8_35, m8_39, m8_40, m8_41, m8_42, m8_43, m8_44, m8_45, m8_46, m8_47, m8_48, m8_60, m8_62, m8_64, m8_65, m8_67, m8_69, m8_80, m8_90, m8_92, m8_95, m8_97, m8_101, m8_112, m8_122, m8, orO_some, andO_some, Option.bind_some, getD_drop, Int.toNat_natCast]
    by_cases hlt : k < l.length
    · left
      have hd : l.drop k = l[k] :: l.drop (k + 1) := List.drop_eq_getElem_cons hlt
      rw [hd] at hbd ⊢
      rw [iteT (ltT (by omega)), ix_at hlt, Option.bind_some]
      have hmem := ht l[k] (List.getElem_mem hlt)
      by_cases h7 : l[k].kind = 7
      · rw [joinF, if_pos h7] at hbd
        have hbl : joinF (ofQ q) (ile 0 last && ilt last (((k + 1 : Nat) : Int) - 1)) (ile 0 last) (l.drop (k + 1)) = joinF (ofQ q) true (ile 0 last) (l.drop (k + 1)) := by
          by_cases h0 : 0 ≤ last
          · rw [leT h0, ltT (by omega)]; rfl
          · rw [leF (by omega)]
            exact joinF_first _ _ _ _
        refine ⟨(out, last, ((k + 1 : Nat) : Int)), ?_, ⟨k + 1, rfl, by omega, hl1, (show last < ((k + 1 : Nat) : Int) by omega), (show out.length + (joinF (ofQ q) (ile 0 last && ilt last (((k + 1 : Nat) : Int) - 1)) (ile 0 last) (l.drop (k + 1))).length ≤ 140737488355328 by rw [hbl]; exact hbd)⟩, by simp only; omega, ?_⟩
        · rw [iteT (eqT h7), pk (by omega)]; rfl
        · simp only [Int.toNat_natCast]; rw [joinF, if_pos h7, hbl]
      · rw [joinF, if_neg h7, List.length_append, List.length_append] at hbd
        rw [iteF (eqF h7)]
        simp only [Option.bind_some]
        rw [pk (by omega)]
        simp only [condOr, Option.bind_some]
        have hnext : joinF (ofQ q) (ile 0 (k : Int) && ilt (k : Int) (((k + 1 : Nat) : Int) - 1)) (ile 0 (k : Int)) (l.drop (k + 1)) = joinF (ofQ q) false true (l.drop (k + 1)) := by
          rw [leT (by omega), ltF (by omega)]; rfl
        have hj : ∀ o : List UInt8, o.length + (ofQ q l[k]).length ≤ 140737488355328 → emendref07_Text_j3 l q (k : Int) o = some (.next (o ++ ofQ q l[k], (k : Int), ((k + 1 : Nat) : Int))) := by
          intro o ho
          unfold emendref07_Text_j3
          cases q with
          | true =>
            have hof : ofQ true l[k] = escOf l[k] := rfl
            rw [hof] at ho ⊢
            rw [if_pos rfl, ix_at hlt, Option.bind_some, resc_eq _ hmem, Option.bind_some, chkT (by omega), chkT (by omega)]; rfl
          | false =>
            have hof : ofQ false l[k] = l[k].text := rfl
            rw [hof] at ho ⊢
            rw [if_neg (by simp), ix_at hlt, Option.bind_some, chkT (by omega), chkT (by omega)]; rfl
        have hcond : cond (ile 0 last) (some (l[k].blank || ilt last ((k : Int) - 1))) (some false) = some (ile 0 last && ((ile 0 last && ilt last ((k : Int) - 1)) || l[k].blank)) := by
          cases ile 0 last <;> cases ilt last ((k : Int) - 1) <;> cases l[k].blank <;> rfl
        rw [hcond, Option.bind_some]
        by_cases hc : (ile 0 last && ((ile 0 last && ilt last ((k : Int) - 1)) || l[k].blank)) = true
        · rw [if_pos hc] at hbd
          simp only [List.length_cons, List.length_nil] at hbd
          refine ⟨((out ++ [32]) ++ ofQ q l[k], (k : Int), ((k + 1 : Nat) : Int)), ?_, ⟨k + 1, rfl, by omega, (show (-1 : Int) ≤ (k : Int) by omega), (show (k : Int) < ((k + 1 : Nat) : Int) by omega), ?_⟩, by simp only; omega, ?_⟩
          · rw [iteT hc, pk (by simp only [List.length_cons, List.length_nil]; omega), hj _ (by simp only [List.length_append, List.length_cons, List.length_nil]; omega)]
          · rw [hnext]; simp only [List.length_append, List.length_cons, List.length_nil]; omega
          · simp only [Int.toNat_natCast]; rw [hnext, joinF, if_neg h7, if_pos hc]; simp only [List.append_assoc]
        · rw [if_neg hc] at hbd
          simp only [List.length_nil] at hbd
          refine ⟨(out ++ ofQ q l[k], (k : Int), ((k + 1 : Nat) : Int)), ?_, ⟨k + 1, rfl, by omega, (show (-1 : Int) ≤ (k : Int) by omega), (show (k : Int) < ((k + 1 : Nat) : Int) by omega), ?_⟩, by simp only; omega, ?_⟩
          · rw [iteF (Bool.eq_false_iff.2 hc), hj _ (by omega)]
          · rw [hnext]; simp only [List.length_append]; omega
          · simp only [Int.toNat_natCast]; rw [hnext, joinF, if_neg h7, if_neg hc]; simp only [List.append_assoc, List.nil_append]
    · right
      rw [iteF (ltF (by omega)), List.drop_of_length_le (by omega)]; simp [joinF]
  rw [key]; rfl
theorem rstring_eq (l : List GTok) (hl : l.length ≤ 2000000) (ht : ∀ t ∈ l, t.text.length ≤ 2000000000) (hb : (joinF escOf false false l).length ≤ 140737488355328) : emendref07_String l = some ⟨4, 34 :: (joinF escOf false false l ++ [34]), 0, 0, 0, false⟩ := by
  unfold emendref07_String
  rw [rtext_eq l true hl ht hb, Option.bind_some]
  have e : joinF (ofQ true) false false l = joinF escOf false false l := rfl
  rw [e, chkT (by simp only [List.length_cons, List.length_nil]; omega), chkT (by simp only [List.length_append, List.length_cons, List.length_nil]; omega)]; rfl
theorem glueTexts_law (l : List GTok) (hl : l.length ≤ 2000000) (ht : (printT l).length ≤ 4000000) : emendlaw07_GlueTexts l = some true := by
  unfold emendlaw07_GlueTexts
  have h1 : ∀ t ∈ l, t.text.length ≤ 2000000000 := by
    intro x hx
    have e1 : (printT [x]).length ≤ (printT l).length := printT_sub1 hx
    have e2 : x.text.length ≤ (printT [x]).length := by simp [printT, printOne]
    omega
  have b1 := joinF_len escOf escOf_len l false false
  have b2 := joinF_len GTok.text (fun t => by omega) l false false
  rw [awake7, Option.bind_some, text_eq l (by omega) (by omega), Option.bind_some, string_eq l (by omega) h1 (by omega), Option.bind_some]
  have e3 : emendref07_Text l false = some (joinF GTok.text false false l) := rtext_eq l false hl h1 (show (joinF GTok.text false false l).length ≤ _ by omega)
  rw [e3, rstring_eq l hl h1 (by omega)]
  simp [andO]
end Go.Sh
