/-
  Lists of tokens that are one, or alike; how they are printed; where a text's first token stands. No program in sight.
-/
import Derived.Test.YtogbccggnjidpaaDoorA6
set_option linter.unusedVariables false
set_option linter.unusedSimpArgs false
namespace Go.Sh
open Go
/-- a loop that holds two lists against each other, place by place -/
theorem loopS_same {α β ρ : Type} {f : Int → Option (Step Int (Sum Unit ρ))} (a b : List α) (key : α → β) [DecidableEq β] (v : ρ) (hn : a.length ≤ 1000000) (hab : a.length = b.length)
    (step : ∀ (k : Nat) (h : k < a.length) (h2 : k < b.length), f k = if key a[k] = key b[k] then some (.next ((k + 1 : Nat) : Int)) else some (.done (.inr v)))
    (last : f a.length = some (.done (.inl ()))) : loopS f 0 = some (if a.map key = b.map key then .inl () else .inr v) := by
  obtain ⟨r, h1, h2⟩ := loopS_ix (f := f) a.length (by omega) (fun k x => x = (k : Int) ∧ (a.take k).map key = (b.take k).map key) (fun r => r = if a.map key = b.map key then .inl () else .inr v) (s0 := (0 : Int)) ⟨rfl, rfl⟩ (by
    rintro k x hk ⟨rfl, h⟩
    have hk2 : k < b.length := by omega
    rw [step k hk hk2]
    by_cases hp : key a[k] = key b[k]
    · left
      refine ⟨_, if_pos hp, rfl, ?_⟩
      rw [List.take_add_one, List.getElem?_eq_getElem hk, List.take_add_one, List.getElem?_eq_getElem hk2, List.map_append, List.map_append, h]
      simp [hp]
    · right
      refine ⟨_, if_neg hp, ?_⟩
      rw [if_neg]
      intro e
      have e2 := congrArg (fun l => l[k]?) e
      simp only [List.getElem?_map, List.getElem?_eq_getElem hk, List.getElem?_eq_getElem hk2, Option.map_some, Option.some.injEq] at e2
      exact hp e2) (by
    rintro x ⟨rfl, h⟩
    rw [List.take_length, hab, List.take_length] at h
    refine ⟨_, last, ?_⟩
    rw [if_pos h])
  rw [h1, h2]
theorem rsame_eq (a b : List GTok) (h : a.length ≤ 1000000) : emendref03_Same a b = some (decide (a = b)) := by
  unfold emendref03_Same
  by_cases hl : a.length = b.length
  · rw [if_neg (by simp [hl])]
    rw [loopS_same (f := emendref03_Same_b2 a b) a b id false h hl (fun k hk hk2 => by
      unfold emendref03_Same_b2
      rw [if_pos (decide_eq_true (by omega)), ix_at hk, Option.bind_some, ix_at hk2, Option.bind_some]
      by_cases hp : a[k] = b[k]
      · rw [if_neg (by simp [hp]), chkT (by omega), if_pos (show id a[k] = id b[k] from hp)]; rfl
      · rw [if_pos (by simp [hp]), if_neg (show ¬ id a[k] = id b[k] from hp)]) (by
      unfold emendref03_Same_b2
      rw [if_neg (by simp)]), Option.bind_some]
    simp only [List.map_id]
    by_cases e : a = b
    · rw [if_pos e, decide_eq_true e]; rfl
    · rw [if_neg e, decide_eq_false e]
  · rw [if_pos (by simp; omega), decide_eq_false (fun e => hl (by rw [e]))]
def tk (t : GTok) : Int × List UInt8 × Bool := (t.kind, t.text, t.blank)
theorem ralike_eq (a b : List GTok) (h : a.length ≤ 1000000) : emendref03_Alike a b = some (decide (a.map tk = b.map tk)) := by
  unfold emendref03_Alike
  by_cases hl : a.length = b.length
  · rw [if_neg (by simp [hl])]
    rw [loopS_same (f := emendref03_Alike_b2 a b) a b tk false h hl (fun k hk hk2 => by
      unfold emendref03_Alike_b2
      simp only [chkB, andB, orB, condAnd, condOr, iteB, neqB, nltB, nleB, m8_9, m8_10, m8_11, m8_12, m8_13, m8_32, m8_34, m8_35, m8_39, m8_40, m8_41, m8_42, m8_43, m8_44, m8_45, m8_46, m8_47, m8_48, m8_60, m8_62, m8_64, m8_65, m8_67, m8_69, m8_80, m8_90, m8_92, m8_95, m8_97, m8_101, m8_112, m8_122, m8, orO_some, andO_some, Option.bind_some, getD_drop, ix_at hk, ix_at hk2]
      rw [iteT (ltT (by omega))]
      by_cases hp : tk a[k] = tk b[k]
      · have hp2 := hp
        simp only [tk, Prod.mk.injEq] at hp2
        rw [iteF (by rw [eqT hp2.1, eqT hp2.2.1, hp2.2.2]; simp), pk (by omega), if_pos hp]; rfl
      · rw [if_neg hp]
        apply iteT
        apply eq_true_of_ne_false
        intro e
        simp only [Bool.or_eq_false_iff, Bool.not_eq_false', beq_iff_eq] at e
        exact hp (by simp only [tk, e.1.1, e.1.2, e.2])) (by
      unfold emendref03_Alike_b2
      rw [if_neg (by simp)]), Option.bind_some]
    by_cases e : a.map tk = b.map tk
    · rw [if_pos e, decide_eq_true e]; rfl
    · rw [if_neg e, decide_eq_false e]
  · rw [if_pos (by simp; omega), decide_eq_false (fun e => hl (by simpa using congrArg List.length e))]

/-! ### printed -/
def printOne (t : GTok) : List UInt8 := (if t.blank = true then [32] else []) ++ t.text
def printT (l : List GTok) : List UInt8 := l.flatMap printOne
theorem printT_take (l : List GTok) (k : Nat) (h : k < l.length) : printT (l.take (k + 1)) = printT (l.take k) ++ printOne l[k] := by
  unfold printT
  rw [List.take_add_one, List.getElem?_eq_getElem h, List.flatMap_append]; simp
theorem printT_le (l : List GTok) (k : Nat) : (printT (l.take k)).length ≤ (printT l).length := by
  have : printT l = printT (l.take k) ++ printT (l.drop k) := by unfold printT; rw [← List.flatMap_append, List.take_append_drop]
  rw [this, List.length_append]; omega
theorem print_eq (l : List GTok) (h : l.length ≤ 1000000) (h2 : (printT l).length ≤ 1000000) : pptok_Print l = some (printT l) := by
  unfold pptok_Print
  obtain ⟨r, h1, rfl⟩ := loopS_ix (f := pptok_Print_b2 l) l.length (by omega) (fun k x => x.1 = k ∧ x.2 = printT (l.take k)) (fun r => r = printT l) (s0 := ((0 : Int), ([] : List UInt8))) ⟨rfl, rfl⟩ (by
    rintro k ⟨i, out⟩ hk ⟨e1, e2⟩
    simp only at e1 e2; subst e1; subst e2
    left
    have h3 := printT_le l (k + 1)
    rw [printT_take l k hk, List.length_append] at h3
    refine ⟨((k : Int) + 1, printT (l.take (k + 1))), ?_, rfl, rfl⟩
    unfold pptok_Print_b2
    simp only [chkB, andB, orB, condAnd, condOr, iteB, neqB, nltB, nleB, m8_9, m8_10, m8_11, m8_12, m8_13, m8_32, m8_34, m8_35, m8_39, m8_40, m8_41, m8_42, m8_43, m8_44, m8_45, m8_46, m8_47, m8_48, m8_60, m8_62, m8_64, m8_65, m8_67, m8_69, m8_80, m8_90, m8_92, m8_95, m8_97, m8_101, m8_112, m8_122, m8, orO_some, andO_some, Option.bind_some, getD_drop, ix_at hk]
    rw [iteT (ltT (by omega)), printT_take l k hk]
    by_cases hb : l[k].blank = true
    · rw [show printOne l[k] = [32] ++ l[k].text by unfold printOne; rw [if_pos hb]] at *
      simp only [List.length_append, List.length_cons, List.length_nil] at h3
      rw [iteT hb, pk (by omega), pk (by simp only [List.length_append, List.length_cons, List.length_nil]; omega), pk (by omega), List.append_assoc]
    · rw [show printOne l[k] = l[k].text by unfold printOne; rw [if_neg hb]; rfl] at *
      rw [iteF (Bool.eq_false_iff.2 hb), pk (by omega), pk (by omega)]) (by
    rintro ⟨i, out⟩ ⟨e1, e2⟩
    simp only at e1 e2; subst e1; subst e2
    refine ⟨printT l, ?_, rfl⟩
    unfold pptok_Print_b2
    simp only
    rw [if_neg (by simp), List.take_length])
  rw [h1]; rfl
theorem rprint_eq (l : List GTok) (h : l.length ≤ 1000000) (h2 : (printT l).length ≤ 1000000) : emendref03_Print l = some (printT l) := by
  unfold emendref03_Print
  obtain ⟨r, h1, rfl⟩ := loopS_ix (f := emendref03_Print_b2 l) l.length (by omega) (fun k x => x.2 = k ∧ x.1 = printT (l.take k)) (fun r => r = printT l) (s0 := (([] : List UInt8), (0 : Int))) ⟨rfl, rfl⟩ (by
    rintro k ⟨out, i⟩ hk ⟨e1, e2⟩
    simp only at e1 e2; subst e1; subst e2
    left
    have h3 := printT_le l (k + 1)
    rw [printT_take l k hk, List.length_append] at h3
    refine ⟨(printT (l.take (k + 1)), (k : Int) + 1), ?_, rfl, rfl⟩
    unfold emendref03_Print_b2 emendref03_Print_j3
    simp only [chkB, andB, orB, condAnd, condOr, iteB, neqB, nltB, nleB, m8_9, m8_10, m8_11, m8_12, m8_13, m8_32, m8_34, m8_35, m8_39, m8_40, m8_41, m8_42, m8_43, m8_44, m8_45, m8_46, m8_47, m8_48, m8_60, m8_62, m8_64, m8_65, m8_67, m8_69, m8_80, m8_90, m8_92, m8_95, m8_97, m8_101, m8_112, m8_122, m8, orO_some, andO_some, Option.bind_some, getD_drop, ix_at hk]
    rw [iteT (ltT (by omega)), printT_take l k hk]
    by_cases hb : l[k].blank = true
    · rw [show printOne l[k] = [32] ++ l[k].text by unfold printOne; rw [if_pos hb]] at *
      simp only [List.length_append, List.length_cons, List.length_nil] at h3
      rw [iteT hb, pk (by simp only [List.length_cons, List.length_nil]; omega), pk (by simp only [List.length_append, List.length_cons, List.length_nil]; omega), pk (by omega), List.append_assoc]
    · rw [show printOne l[k] = l[k].text by unfold printOne; rw [if_neg hb]; rfl] at *
      rw [iteF (Bool.eq_false_iff.2 hb), pk (by omega), pk (by omega)]) (by
    rintro ⟨out, i⟩ ⟨e1, e2⟩
    simp only at e1 e2; subst e1; subst e2
    refine ⟨printT l, ?_, rfl⟩
    unfold emendref03_Print_b2
    simp only
    rw [if_neg (by simp), List.take_length])
  rw [h1]; rfl

/-! ### where tokens stand -/
/-- the first token: what is passed over ahead of it, and what is behind it -/
theorem toks_head (n : Nat) : ∀ (i : Nat) (b : Bool) (u : List UInt8) (p : PT) (r : List PT), u.length ≤ n → toks i b u = p :: r →
    ∃ k m : Nat, p.i = i + k ∧ p.j = i + k + m ∧ 1 ≤ m ∧ k + m ≤ u.length ∧ p.text = (u.drop k).take m ∧ nextTok (u.drop k) = (p.kind, m) ∧ blankLen (u.drop k) = 0 ∧ (k = 0 → p.blank = b) ∧ (0 < k → p.blank = true) ∧ r = toks p.j false (u.drop (k + m)) := by
  induction n with
  | zero =>
    intro i b u p r h e
    have : u = [] := List.length_eq_zero_iff.1 (by omega)
    subst this; rw [toks_nil] at e; cases e
  | succ n ih =>
    intro i b u p r h e
    by_cases hu : u = []
    · subst hu; rw [toks_nil] at e; cases e
    by_cases hb : 0 < blankLen u
    · rw [toks_blank hb] at e
      obtain ⟨k, m, h1, h2, h3, h4, h5, h6, h7, h8, h9, h10⟩ := ih _ _ _ p r (by rw [List.length_drop]; omega) e
      have hle := blankLen_le u
      rw [List.length_drop] at h4
      rw [List.drop_drop] at h5 h6 h7 h10
      refine ⟨blankLen u + k, m, by omega, by omega, h3, by omega, h5, h6, h7, fun h => by omega, fun _ => ?_, by rw [h10, Nat.add_assoc]⟩
      by_cases hk : k = 0
      · exact h8 hk
      · exact h9 (by omega)
    · rw [toks_tok hu (by omega)] at e
      injection e with e1 e2
      subst e1
      exact ⟨0, (nextTok u).2, rfl, rfl, nextTok_pos u, by have := nextTok_le u hu; omega, rfl, rfl, by rw [List.drop_zero]; omega, fun _ => rfl, fun h => absurd h (Nat.lt_irrefl _), by rw [← e2, Nat.zero_add]⟩
theorem charsAt_full : ∀ (t : List UInt8) (i : Nat), (charsAt i t).length = t.length → (charsAt i t).map GChar.b = t ∧ ∀ j, j < t.length → atOf (charsAt i t) j = i + j
  | [], i, _ => ⟨rfl, fun j h => absurd h (Nat.not_lt_zero _)⟩
  | [c], i, _ => ⟨rfl, fun j h => by
      have : j = 0 := by simp at h; omega
      subst this; simp [charsAt, atOf]⟩
  | c :: d :: r, i, h => by
    unfold charsAt at h ⊢
    split at h
    · have := charsAt_len r (i + 2); simp only [List.length_cons] at h; omega
    · rename_i hne
      rw [if_neg hne]
      simp only [List.length_cons, Nat.add_right_cancel_iff] at h
      obtain ⟨h1, h2⟩ := charsAt_full (d :: r) (i + 1) (by simpa using h)
      refine ⟨by rw [List.map_cons, h1], fun j hj => ?_⟩
      cases j with
      | zero => simp [atOf]
      | succ j =>
        have := h2 j (by simp only [List.length_cons] at hj ⊢; omega)
        unfold atOf at this ⊢
        rw [List.getElem?_cons_succ, this]; push_cast; omega
end Go.Sh
