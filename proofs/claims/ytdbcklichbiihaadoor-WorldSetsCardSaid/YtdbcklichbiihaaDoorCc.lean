/-
  (Of C1: for seats beyond Direct's.)
  Lines and directives, in plain words: by the program and by the document. No program in sight.
-/
import Derived.Test.YtdbcklichbiihaaDoorAm
import Derived.Test.YtdbcklichbiihaaDoorZs
set_option linter.unusedVariables false
set_option linter.unusedSimpArgs false
namespace Go.Sh
open Go
/-! ### kinds -/
def kindFrom (w : List UInt8) : Int → List (List UInt8) → Int
  | _, [] => 0
  | n, y :: r => if w = y then n else kindFrom w (n + 1) r
def kindOf (w : List UInt8) : Int := kindFrom w 2 words
theorem words_len : words.length = 12 := rfl
theorem kind_eq (w : List UInt8) : direct_Kind w = some (kindOf w) := by
  unfold direct_Kind
  obtain ⟨r, h1, h2⟩ := loopS_ix (f := direct_Kind_b2 w) 12 (by omega) (fun k x => x = (k : Int) ∧ kindFrom w (2 + k) (words.drop k) = kindOf w) (fun r => (match r with | .inl _ => 0 | .inr n => n) = kindOf w) (s0 := (0 : Int)) ⟨rfl, rfl⟩ (by
    rintro k x hk ⟨rfl, h⟩
    have hk' : k < words.length := by rw [words_len]; exact hk
    unfold direct_Kind_b2
    simp only [chkB, andB, orB, condAnd, condOr, iteB, neqB, nltB, nleB, m8_9, m8_10, m8_11, m8_12, m8_13, m8_32, m8_34, m8_35, m8_39, m8_40, m8_41, m8_42, m8_43, m8_44, m8_45, m8_46, m8_47, m8_48, m8_60, m8_62, m8_64, m8_65, m8_67, m8_69, m8_80, m8_90, m8_92, m8_95, m8_97, m8_101, m8_112, m8_122, m8, orO_some, andO_some, Option.bind_some, getD_drop]
    rw [iteT (ltT (by omega)), ix_at hk', Option.bind_some]
    rw [List.drop_eq_getElem_cons hk', kindFrom] at h
    by_cases hw : w = words[k]
    · right
      rw [if_pos hw] at h
      exact ⟨.inr (2 + (k : Int)), by rw [iteT (eqT hw.symm), pk (by omega)], h⟩
    · left
      rw [if_neg hw] at h
      refine ⟨((k + 1 : Nat) : Int), by rw [iteF (eqF (Ne.symm hw)), pk (by omega)]; rfl, rfl, ?_⟩
      rw [← h]; congr 1) (by
    rintro x ⟨rfl, h⟩
    refine ⟨.inl (), ?_, ?_⟩
    · unfold direct_Kind_b2
      simp only [chkB, andB, orB, condAnd, condOr, iteB, neqB, nltB, nleB, m8_9, m8_10, m8_11, m8_12, m8_13, m8_32, m8_34, m8_35, m8_39, m8_40, m8_41, m8_42, m8_43, m8_44, m8_45, m8_46, m8_47, m8_48, m8_60, m8_62, m8_64, m8_65, m8_67, m8_69, m8_80, m8_90, m8_92, m8_95, m8_97, m8_101, m8_112, m8_122, m8, orO_some, andO_some, Option.bind_some, getD_drop]
      exact iteF (ltF (by omega))
    · rw [List.drop_of_length_le (by rw [words_len]; exact Nat.le_refl _)] at h
      exact h)
  rw [h1, Option.bind_some]
  cases r with
  | inl u => simp only at h2; rw [← h2]; rfl
  | inr n => simp only at h2; rw [← h2]
theorem rkind_eq (w : List UInt8) : emendref04_Kind w = some (kindOf w) := by
  unfold emendref04_Kind kindOf words
  simp only [kindFrom, decide_eq_true_eq, Int.reduceAdd, apply_ite some]

/-! ### lines -/
def lineOf (l : List GTok) (first : Int) : GLine :=
  match l with
  | [] => ⟨1, first, 0, []⟩
  | t :: r => if t.kind = 5 ∧ t.text = [35] then
      (match r with
      | [] => ⟨14, first, 1, []⟩
      | u :: r2 => if u.kind = 1 ∧ kindOf u.text ≠ 0 then ⟨kindOf u.text, first, (r2.length + 2 : Nat), r2⟩ else ⟨15, first, (r2.length + 2 : Nat), u :: r2⟩)
    else ⟨1, first, (r.length + 1 : Nat), t :: r⟩
theorem dsign_eq (t : GTok) (s : List UInt8) : direct_sign t s = some (decide (t.kind = 5) && decide (t.text = s)) := by
  unfold direct_sign; simp only [andO_some, Option.bind_some]
theorem line_eq (l : List GTok) : direct_line l = some (lineOf l 0) := by
  unfold direct_line
  match l with
  | [] => rfl
  | t :: r =>
    have x0 : ix (t :: r) 0 = some t := rfl
    simp only [x0, dsign_eq, chkB, andB, orB, condAnd, condOr, iteB, neqB, nltB, nleB, m8_9, m8_10, m8_11, m8_12, m8_13, m8_32, m8_34, m8_35, m8_39, m8_40, m8_41, m8_42, m8_43, m8_44, m8_45, m8_46, m8_47, m8_48, m8_60, m8_62, m8_64, m8_65, m8_67, m8_69, m8_80, m8_90, m8_92, m8_95, m8_97, m8_101, m8_112, m8_122, m8, orO_some, andO_some, Option.bind_some, getD_drop]
    rw [eqF (show ¬ (((t :: r).length : Int) = 0) by simp; omega)]
    simp only [Bool.false_or]
    unfold lineOf
    by_cases hs : t.kind = 5 ∧ t.text = [35]
    · rw [iteF (by rw [eqT hs.1, eqT hs.2]; rfl), pk (by simp only [List.length_cons]; omega)]
      simp only [if_pos hs]
      match r with
      | [] => rfl
      | u :: r2 =>
        have x1 : ix (t :: u :: r2) 1 = some u := rfl
        rw [iteF (eqF (by simp only [List.length_cons]; omega)), x1]
        simp only [kind_eq, chkB, andB, orB, condAnd, condOr, iteB, neqB, nltB, nleB, m8_9, m8_10, m8_11, m8_12, m8_13, m8_32, m8_34, m8_35, m8_39, m8_40, m8_41, m8_42, m8_43, m8_44, m8_45, m8_46, m8_47, m8_48, m8_60, m8_62, m8_64, m8_65, m8_67, m8_69, m8_80, m8_90, m8_92, m8_95, m8_97, m8_101, m8_112, m8_122, m8, orO_some, andO_some, Option.bind_some, getD_drop, direct_line_j1]
        by_cases h1 : u.kind = 1
        · rw [iteF (by rw [eqT h1]; rfl)]
          by_cases h2 : kindOf u.text = 0
          · rw [iteF (by rw [eqT h2]; rfl), if_neg (fun h => h.2 h2)]; rfl
          · rw [iteT (by rw [eqF h2]; rfl), pk (by simp only [List.length_cons]; omega), if_pos ⟨h1, h2⟩]; rfl
        · rw [iteT (by rw [eqF h1]; rfl), if_neg (fun h => h1 h.1)]; rfl
    · simp only [if_neg hs]
      rw [iteT]
      · rfl
      · rcases Decidable.not_and_iff_or_not.1 hs with h | h
        · rw [eqF h]; rfl
        · rw [eqF h, Bool.and_false]; rfl
theorem rline_eq (l : List GTok) (first : Int) : emendref04_line l first = some (lineOf l first) := by
  unfold emendref04_line
  match l with
  | [] => rfl
  | t :: r =>
    have x0 : ix (t :: r) 0 = some t := rfl
    simp only [x0, chkB, andB, orB, condAnd, condOr, iteB, neqB, nltB, nleB, m8_9, m8_10, m8_11, m8_12, m8_13, m8_32, m8_34, m8_35, m8_39, m8_40, m8_41, m8_42, m8_43, m8_44, m8_45, m8_46, m8_47, m8_48, m8_60, m8_62, m8_64, m8_65, m8_67, m8_69, m8_80, m8_90, m8_92, m8_95, m8_97, m8_101, m8_112, m8_122, m8, orO_some, andO_some, Option.bind_some, getD_drop]
    rw [eqF (show ¬ (((t :: r).length : Int) = 0) by simp; omega)]
    simp only [Bool.false_or, chkB, andB, orB, condAnd, condOr, iteB, neqB, nltB, nleB, m8_9, m8_10, m8_11, m8_12, m8_13, m8_32, m8_34, m8_35, m8_39, m8_40, m8_41, m8_42, m8_43, m8_44, m8_45, m8_46, m8_47, m8_48, m8_60, m8_62, m8_64, m8_65, m8_67, m8_69, m8_80, m8_90, m8_92, m8_95, m8_97, m8_101, m8_112, m8_122, m8, orO_some, andO_some, Option.bind_some, getD_drop]
    unfold lineOf
    by_cases hs : t.kind = 5 ∧ t.text = [35]
    · rw [iteF (by rw [eqT hs.1, eqT hs.2]; rfl)]
      simp only [if_pos hs]
      match r with
      | [] => rfl
      | u :: r2 =>
        have x1 : ix (t :: u :: r2) 1 = some u := rfl
        rw [iteF (eqF (by simp only [List.length_cons]; omega)), x1]
        simp only [rkind_eq, chkB, andB, orB, condAnd, condOr, iteB, neqB, nltB, nleB, m8_9, m8_10, m8_11, m8_12, m8_13, m8_32, m8_34, m8_35, m8_39, m8_40, m8_41, m8_42, m8_43, m8_44, m8_45, m8_46, m8_47, m8_48, m8_60, m8_62, m8_64, m8_65, m8_67, m8_69, m8_80, m8_90, m8_92, m8_95, m8_97, m8_101, m8_112, m8_122, m8, orO_some, andO_some, Option.bind_some, getD_drop]
        by_cases h1 : u.kind = 1 ∧ kindOf u.text ≠ 0
        · rw [iteT (by rw [eqT h1.1, eqF h1.2]; rfl), pk (by simp only [List.length_cons]; omega), if_pos h1]; rfl
        · rw [if_neg h1, iteF, pk (by simp only [List.length_cons]; omega)]
          · rfl
          · rcases Decidable.not_and_iff_or_not.1 h1 with h | h
            · rw [eqF h]; rfl
            · rw [eqT (Decidable.not_not.1 h), Bool.not_true, Bool.and_false]
    · simp only [if_neg hs]
      rw [iteT]
      · rfl
      · rcases Decidable.not_and_iff_or_not.1 hs with h | h
        · rw [eqF h]; rfl
        · rw [eqF h]; simp
theorem lineOf_first (l : List GTok) (a b : Int) : (GLine.mk (lineOf l a).kind b (lineOf l a).n (lineOf l a).toks) = lineOf l b := by
  unfold lineOf
  match l with
  | [] => rfl
  | [t] => simp only; split <;> rfl
  | t :: u :: r => simp only; split <;> (try split) <;> rfl
def pieceOf (l : List GTok) (p : Int × Int) : GLine := lineOf ((l.drop p.1.toNat).take (p.2.toNat - p.1.toNat)) p.1
def linesOf (l : List GTok) : List GLine := (piecesF 0 0 l).map (pieceOf l)
theorem pieces_bound (n : Nat) : ∀ (l : List GTok) (f i : Nat), i + l.length = n → f ≤ i → (piecesF f i l).length ≤ l.length + 1 ∧ ∀ p ∈ piecesF f i l, 0 ≤ p.1 ∧ p.1 ≤ p.2 ∧ p.2 ≤ (n : Int)
  | [], f, i, hn, hf => by
    unfold piecesF; split
    · refine ⟨by simp, fun p hp => ?_⟩
      simp at hp; subst hp; simp at hn; simp only; omega
    · exact ⟨by simp, fun p hp => by simp at hp⟩
  | t :: r, f, i, hn, hf => by
    rw [List.length_cons] at hn
    unfold piecesF; split
    · obtain ⟨h1, h2⟩ := pieces_bound n r (i + 1) (i + 1) (by omega) (Nat.le_refl _)
      refine ⟨by simp only [List.length_cons]; omega, fun p hp => ?_⟩
      rcases List.mem_cons.1 hp with rfl | hp
      · simp only; omega
      · exact h2 p hp
    · obtain ⟨h1, h2⟩ := pieces_bound n r f (i + 1) (by omega) (by omega)
      exact ⟨by simp only [List.length_cons]; omega, h2⟩
theorem lines_eq (l : List GTok) (h : l.length ≤ 2800000000000) : direct_Lines l = some (linesOf l) := by
  unfold direct_Lines
  have hp : pieces l = some (piecesF 0 0 l) := if_pos (by omega)
  obtain ⟨b1, b2⟩ := pieces_bound l.length l 0 0 (by omega) (Nat.le_refl _)
  rw [hp, Option.bind_some]
  obtain ⟨s, h1, rfl⟩ := foldS_rel (f := direct_Lines_b1 l) (l := piecesF 0 0 l) (fun k s => s = ((piecesF 0 0 l).take k).map (pieceOf l)) (s0 := ([] : List GLine)) rfl (by
    rintro k s x hx rfl
    have hlt := (List.getElem?_eq_some_iff.1 hx).1
    obtain ⟨c1, c2, c3⟩ := b2 x (List.mem_of_getElem? hx)
    refine ⟨((piecesF 0 0 l).take k).map (pieceOf l) ++ [pieceOf l x], ?_, ?_⟩
    · unfold direct_Lines_b1
      rw [chkT (by omega), line_eq, Option.bind_some, chkT (by rw [List.length_map, List.length_take]; omega), lineOf_first]; rfl
    · rw [List.take_add_one, hx, List.map_append]; rfl)
  rw [h1, Option.bind_some]
  simp [direct_Lines_k2, linesOf]
theorem rlines_eq (l : List GTok) (h : l.length ≤ 2800000000000) : emendref04_Lines l = some (linesOf l) := by
  unfold emendref04_Lines
  obtain ⟨b1, b2⟩ := pieces_bound l.length l 0 0 (by omega) (Nat.le_refl _)
  have hall : (linesOf l).length ≤ l.length + 1 := by unfold linesOf; rw [List.length_map]; exact b1
  obtain ⟨r, h1, ⟨f, hf, hfl, hr⟩⟩ := loopS_ix (f := emendref04_Lines_b2 l) l.length (by omega) (fun k x => ∃ f : Nat, x.1 = (f : Int) ∧ x.2.1 = (k : Int) ∧ f ≤ k ∧ x.2.2 ++ (piecesF f k (l.drop k)).map (pieceOf l) = linesOf l) (fun r => ∃ f : Nat, r.1 = (f : Int) ∧ f ≤ l.length ∧ r.2 ++ (piecesF f l.length []).map (pieceOf l) = linesOf l) (s0 := ((0 : Int), (0 : Int), ([] : List GLine))) ⟨0, rfl, rfl, Nat.le_refl _, rfl⟩ (by
    rintro k ⟨fr, i, out⟩ hk ⟨f, h1, h2, hf, ho⟩
    simp only at h1 h2 ho; subst h1; subst h2
    left
    rw [List.drop_eq_getElem_cons hk, piecesF] at ho
    unfold emendref04_Lines_b2
    simp only [chkB, andB, orB, condAnd, condOr, iteB, neqB, nltB, nleB, m8_9, m8_10, m8_11, m8_12, m8_13, m8_32, m8_34, m8_35, m8_39, m8_40, m8_41, m8_42, m8_43, m8_44, m8_45, m8_46, m8_47, m8_48, m8_60, m8_62, m8_64, m8_65, m8_67, m8_69, m8_80, m8_90, m8_92, m8_95, m8_97, m8_101, m8_112, m8_122, m8, orO_some, andO_some, Option.bind_some, getD_drop, ix_at hk, rline_eq]
    rw [iteT (ltT (by omega))]
    by_cases h7 : l[k].kind = 7
    · rw [if_pos h7, List.map_cons] at ho
      have hol := congrArg List.length ho
      simp only [List.length_append, List.length_cons] at hol
      refine ⟨(((k + 1 : Nat) : Int), ((k + 1 : Nat) : Int), out ++ [pieceOf l ((f : Int), (k : Int))]), ?_, k + 1, rfl, rfl, Nat.le_refl _, ?_⟩
      · rw [iteT (eqT h7), pk (by omega), pk (by omega), pk (by omega), pk (by omega)]; rfl
      · simp only; rw [← ho, List.append_assoc]; rfl
    · rw [if_neg h7] at ho
      refine ⟨((f : Int), ((k + 1 : Nat) : Int), out), ?_, f, rfl, rfl, by omega, ho⟩
      rw [iteF (eqF h7), pk (by omega)]; rfl) (by
    rintro ⟨fr, i, out⟩ ⟨f, h1, h2, hf, ho⟩
    simp only at h1 h2 ho; subst h1; subst h2
    refine ⟨((f : Int), out), ?_, f, rfl, hf, by simpa using ho⟩
    unfold emendref04_Lines_b2
    simp only [chkB, andB, orB, condAnd, condOr, iteB, neqB, nltB, nleB, m8_9, m8_10, m8_11, m8_12, m8_13, m8_32, m8_34, m8_35, m8_39, m8_40, m8_41, m8_42, m8_43, m8_44, m8_45, m8_46, m8_47, m8_48, m8_60, m8_62, m8_64, m8_65, m8_67, m8_69, m8_80, m8_90, m8_92, m8_95, m8_97, m8_101, m8_112, m8_122, m8, orO_some, andO_some, Option.bind_some, getD_drop]
    exact iteF (ltF (by omega)))
  obtain ⟨fr, out⟩ := r
  simp only at hf hr; subst hf
  rw [h1, Option.bind_some]
  unfold emendref04_Lines_j1 emendref04_Lines_j3
  simp only [rline_eq, chkB, andB, orB, condAnd, condOr, iteB, neqB, nltB, nleB, m8_9, m8_10, m8_11, m8_12, m8_13, m8_32, m8_34, m8_35, m8_39, m8_40, m8_41, m8_42, m8_43, m8_44, m8_45, m8_46, m8_47, m8_48, m8_60, m8_62, m8_64, m8_65, m8_67, m8_69, m8_80, m8_90, m8_92, m8_95, m8_97, m8_101, m8_112, m8_122, m8, orO_some, andO_some, Option.bind_some, getD_drop, Int.toNat_natCast]
  have hol := congrArg List.length hr
  simp only [List.length_append] at hol
  by_cases hlt : f < l.length
  · rw [iteT (ltT (by omega)), pk (by omega), pk (by omega), ← hr]
    simp only [piecesF, if_pos hlt, List.map_cons, List.map_nil, pieceOf, Int.toNat_natCast]
    rw [List.take_of_length_le (by rw [List.length_drop]; exact Nat.le_refl _)]
  · rw [iteF (ltF (by omega)), ← hr]
    simp only [piecesF, if_neg hlt, List.map_nil, List.append_nil]
theorem lineOf_toks (l : List GTok) (a : Int) : (lineOf l a).toks.length ≤ l.length := by
  unfold lineOf
  match l with
  | [] => exact Nat.le_refl _
  | [t] => simp only; split <;> simp
  | t :: u :: r => simp only; split <;> (try split) <;> simp <;> omega
theorem linesOf_len (l : List GTok) : (linesOf l).length ≤ l.length + 1 := by
  unfold linesOf; rw [List.length_map]; exact (pieces_bound l.length l 0 0 (by omega) (Nat.le_refl _)).1
theorem linesOf_toks (l : List GTok) : ∀ x ∈ linesOf l, x.toks.length ≤ l.length := by
  intro x hx
  unfold linesOf at hx
  obtain ⟨p, hp, rfl⟩ := List.mem_map.1 hx
  have := lineOf_toks ((l.drop p.1.toNat).take (p.2.toNat - p.1.toNat)) p.1
  unfold pieceOf
  rw [List.length_take, List.length_drop] at this; omega
end Go.Sh

set_option linter.unusedVariables false
set_option linter.unusedSimpArgs false
namespace Go.Sh
open Go
/-- the first piece: up to the first Newline, or to the end -/
theorem pieces_head : ∀ (u : List GTok) (f i : Nat), f ≤ i → (u = [] ∧ piecesF f i u = if f < i then [((f : Int), (i : Int))] else []) ∨ (u ≠ [] ∧ ∃ m : Nat, m ≤ u.length ∧ (∀ j, j < m → ∃ t, u[j]? = some t ∧ t.kind ≠ 7) ∧ ((m = u.length ∧ piecesF f i u = [((f : Int), ((i + m : Nat) : Int))]) ∨ (∃ t, u[m]? = some t ∧ t.kind = 7 ∧ piecesF f i u = ((f : Int), ((i + m : Nat) : Int)) :: piecesF (i + m + 1) (i + m + 1) (u.drop (m + 1)))))
  | [], f, i, h => .inl ⟨rfl, rfl⟩
  | t :: r, f, i, h => by
    right
    refine ⟨by simp, ?_⟩
    by_cases h7 : t.kind = 7
    · refine ⟨0, Nat.zero_le _, fun j hj => absurd hj (Nat.not_lt_zero _), .inr ⟨t, rfl, h7, ?_⟩⟩
      simp only [piecesF, if_pos h7]; rfl
    · have e : piecesF f i (t :: r) = piecesF f (i + 1) r := if_neg h7
      rcases pieces_head r f (i + 1) (by omega) with ⟨h1, h2⟩ | ⟨h1, m, h2, h3, h4⟩
      · subst h1
        refine ⟨1, by simp, fun j hj => ⟨t, by rw [show j = 0 by omega]; rfl, h7⟩, .inl ⟨rfl, ?_⟩⟩
        rw [e, h2, if_pos (by omega)]
      · refine ⟨m + 1, by simp only [List.length_cons]; omega, fun j hj => ?_, ?_⟩
        · cases j with
          | zero => exact ⟨t, rfl, h7⟩
          | succ j =>
            obtain ⟨x, hx, hx2⟩ := h3 j (by omega)
            exact ⟨x, by rw [List.getElem?_cons_succ]; exact hx, hx2⟩
        · rcases h4 with ⟨h5, h6⟩ | ⟨x, h5, h6, h7'⟩
          · left; exact ⟨by rw [List.length_cons, h5], by rw [e, h6, show i + 1 + m = i + (m + 1) by omega]⟩
          · right; exact ⟨x, by rw [List.getElem?_cons_succ]; exact h5, h6, by rw [e, h7', show i + 1 + m = i + (m + 1) by omega]; rfl⟩
theorem lineOf_n (l : List GTok) (a : Int) : (lineOf l a).n = (l.length : Int) ∧ (lineOf l a).first = a ∧ ∃ k, k ≤ l.length ∧ (lineOf l a).toks = l.drop k := by
  unfold lineOf
  match l with
  | [] => exact ⟨rfl, rfl, 0, Nat.le_refl _, rfl⟩
  | [t] =>
    simp only; split
    · exact ⟨rfl, rfl, 1, Nat.le_refl _, rfl⟩
    · exact ⟨rfl, rfl, 0, Nat.zero_le _, rfl⟩
  | t :: u :: r =>
    simp only; split
    · split
      · exact ⟨rfl, rfl, 2, by simp, rfl⟩
      · exact ⟨rfl, rfl, 1, by simp, rfl⟩
    · exact ⟨rfl, rfl, 0, Nat.zero_le _, rfl⟩
end Go.Sh
