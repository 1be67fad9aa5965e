/-
  DirectCovers in plain words. No program in sight.
-/
import Derived.Test.YtghnfeflknfclaaDoorC1
set_option linter.unusedVariables false
set_option linter.unusedSimpArgs false
namespace Go.Sh
open Go
/-- the first piece: up to the first Newline, or to the end -/
theorem pieces_head : ∀ (u : List GTok) (f i : Nat), f ≤ i → (u = [] ∧ piecesF f i u = if f < i then [((f : Int), (i : Int))] else []) ∨ (u ≠ [] ∧ ∃ m : Nat, m ≤ u.length ∧ (∀ j, j < m → ∃ t, u[j]? = some t ∧ t.kind ≠ 7) ∧ ((m = u.length ∧ piecesF f i u = [((f : Int), ((i + m : Nat) : Int))]) ∨ (∃ t, u[m]? = some t ∧ t.kind = 7 ∧ piecesF f i u = ((f : Int), ((i + m : Nat) : Int)) :: piecesF (i + m + 1) (i + m + 1) (u.drop (m + 1)))))
  | [], f, i, h => .inl ⟨rfl, rfl⟩
  | t :: r, f, i, h => by
    right
    refine ⟨by simp, ?_⟩
    by_cases h7 : t.kind = 7
    · refine ⟨0, Nat.zero_le _, fun j hj => absurd hj (Nat.not_lt_zero _), .inr ⟨t, rfl, h7, ?_⟩⟩
      simp only [piecesF, if_pos h7]; rfl
    · have e : piecesF f i (t :: r) = piecesF f (i + 1) r := if_neg h7
      rcases pieces_head r f (i + 1) (by omega) with ⟨h1, h2⟩ | ⟨h1, m, h2, h3, h4⟩
      · subst h1
        refine ⟨1, by simp, fun j hj => ⟨t, by rw [show j = 0 by omega]; rfl, h7⟩, .inl ⟨rfl, ?_⟩⟩
        rw [e, h2, if_pos (by omega)]
      · refine ⟨m + 1, by simp only [List.length_cons]; omega, fun j hj => ?_, ?_⟩
        · cases j with
          | zero => exact ⟨t, rfl, h7⟩
          | succ j =>
            obtain ⟨x, hx, hx2⟩ := h3 j (by omega)
            exact ⟨x, by rw [List.getElem?_cons_succ]; exact hx, hx2⟩
        · rcases h4 with ⟨h5, h6⟩ | ⟨x, h5, h6, h7'⟩
          · left; exact ⟨by rw [List.length_cons, h5], by rw [e, h6, show i + 1 + m = i + (m + 1) by omega]⟩
          · right; exact ⟨x, by rw [List.getElem?_cons_succ]; exact h5, h6, by rw [e, h7', show i + 1 + m = i + (m + 1) by omega]; rfl⟩
theorem lineOf_n (l : List GTok) (a : Int) : (lineOf l a).n = (l.length : Int) ∧ (lineOf l a).first = a ∧ ∃ k, k ≤ l.length ∧ (lineOf l a).toks = l.drop k := by
  unfold lineOf
  match l with
  | [] => exact ⟨rfl, rfl, 0, Nat.le_refl _, rfl⟩
  | [t] =>
    simp only; split
    · exact ⟨rfl, rfl, 1, Nat.le_refl _, rfl⟩
    · exact ⟨rfl, rfl, 0, Nat.zero_le _, rfl⟩
  | t :: u :: r =>
    simp only; split
    · split
      · exact ⟨rfl, rfl, 2, by simp, rfl⟩
      · exact ⟨rfl, rfl, 1, by simp, rfl⟩
    · exact ⟨rfl, rfl, 0, Nat.zero_le _, rfl⟩
theorem covers_inner (l : List GTok) (x : GLine) (a m : Nat) (hx : x.n = (m : Int)) (hm : a + m ≤ l.length) (hl : l.length ≤ 2000000) (h7 : ∀ j, j < m → ∃ t, l[a + j]? = some t ∧ t.kind ≠ 7) : loopS (emendlaw04_DirectCovers_b4 l a x) (a : Int) = some (.inl ()) := by
  obtain ⟨r, h1, rfl⟩ := loopS_rel (f := emendlaw04_DirectCovers_b4 l a x) (fun s => ∃ j : Nat, s = ((a + j : Nat) : Int) ∧ j ≤ m) (fun s => a + m - s.toNat) (fun r => r = .inl ()) (s := (a : Int)) ⟨0, rfl, Nat.zero_le _⟩ (by omega) (by
    rintro s ⟨j, rfl, hj⟩
    unfold emendlaw04_DirectCovers_b4
    have e : ((a : Int) + x.n) = ((a + m : Nat) : Int) := by rw [hx]; rfl
    simp only [chkB, andB, orB, condAnd, condOr, iteB, neqB, nltB, nleB, m8_9, m8_10, m8_11, m8_12, m8_13, m8_32, m8_34, m8_35, m8_39, m8_40, m8_41, m8_42, m8_43, m8_44, m8_45, m8_46, m8_47, m8_48, m8_60, m8_62, m8_64, m8_65, m8_67, m8_69, m8_80, m8_90, m8_92, m8_95, m8_97, m8_101, m8_112, m8_122, m8, orO_some, andO_some, Option.bind_some, getD_drop]
    rw [e, pk (by omega)]
    by_cases hlt : j < m
    · left
      obtain ⟨t, ht, hk⟩ := h7 j hlt
      refine ⟨((a + j + 1 : Nat) : Int), ?_, ⟨j + 1, rfl, by omega⟩, by omega⟩
      rw [iteT (ltT (by omega)), ix_of ht rfl, Option.bind_some, iteF (eqF hk), pk (by omega)]; rfl
    · right
      exact ⟨_, iteF (ltF (by omega)), rfl⟩)
  exact h1
theorem directCovers_law (t : List UInt8) : emendlaw04_DirectCovers t = some true := by
  unfold emendlaw04_DirectCovers
  rw [awake4, Option.bind_some]
  by_cases hl : 1000 < t.length
  · rw [if_pos (decide_eq_true (by omega))]
  have h1 := tokens_len 0 t
  rw [if_neg (by rw [decide_eq_false (by omega)]; simp), tokens_eq 0 t (by omega), Option.bind_some, lines_eq _ (by omega), Option.bind_some]
  generalize tokens 0 t = l at *
  have hll := linesOf_len l
  obtain ⟨ps, hps⟩ : ∃ ps, ps = piecesF 0 0 l := ⟨_, rfl⟩
  have hlines : linesOf l = ps.map (pieceOf l) := by rw [hps]; rfl
  have hpl : (linesOf l).length = ps.length := by rw [hlines, List.length_map]
  obtain ⟨r, g1, rfl⟩ := loopS_ix (f := emendlaw04_DirectCovers_b2 l (linesOf l)) ps.length (by omega)
    (fun n x => ∃ a : Nat, x.1 = (a : Int) ∧ x.2 = (n : Int) ∧ a ≤ l.length ∧ ps.drop n = piecesF a a (l.drop a)) (fun r => r = .inl (l.length : Int)) (s0 := ((0 : Int), (0 : Int))) ⟨0, rfl, rfl, Nat.zero_le _, by rw [hps]; rfl⟩ (by
    rintro n ⟨at_, nn⟩ hn ⟨a, e1, e2, ha, hp⟩
    simp only at e1 e2; subst e1; subst e2
    left
    have hd : ps.drop n = ps[n] :: ps.drop (n + 1) := List.drop_eq_getElem_cons hn
    rw [hd] at hp
    rcases pieces_head (l.drop a) a a (Nat.le_refl _) with ⟨q1, q2⟩ | ⟨q1, m, q2, q3, q4⟩
    · rw [q2, if_neg (Nat.lt_irrefl _)] at hp; cases hp
    rw [List.length_drop] at q2 q4
    have hfirst : ps[n] = ((a : Int), ((a + m : Nat) : Int)) := by
      rcases q4 with ⟨_, q5⟩ | ⟨_, _, _, q5⟩ <;> (rw [q5] at hp; injection hp)
    have hx : ix (linesOf l) (n : Int) = some (lineOf ((l.drop a).take m) a) := by
      rw [ix_nat, hlines, List.getElem?_map, List.getElem?_eq_getElem hn, hfirst]
      simp only [Option.map_some, pieceOf, Int.toNat_natCast, Nat.add_sub_cancel_left]
    obtain ⟨x1, x2, k, x3, x4⟩ := lineOf_n ((l.drop a).take m) a
    have hlen : ((l.drop a).take m).length = m := by rw [List.length_take, List.length_drop]; omega
    rw [hlen] at x1 x3
    obtain ⟨x, hxx⟩ : ∃ x, x = lineOf ((l.drop a).take m) a := ⟨_, rfl⟩
    rw [← hxx] at hx x1 x2 x4
    have htl : x.toks.length = m - k := by rw [x4, List.length_drop, hlen]
    have hsub : (l.drop (a + m - (m - k))).take (a + m - (a + m - (m - k))) = x.toks := by
      rw [x4, show a + m - (m - k) = a + k by omega, show a + m - (a + k) = m - k by omega, ← List.drop_drop, List.drop_take]
    have hin := covers_inner l x a m x1 (by omega) (by omega) (fun j hj => by
      obtain ⟨t, ht, hk⟩ := q3 j hj
      rw [List.getElem?_drop] at ht
      exact ⟨t, ht, hk⟩)
    have eam : ((a : Int) + x.n) = ((a + m : Nat) : Int) := by rw [x1]; rfl
    have esub : (((a + m : Nat) : Int) - (x.toks.length : Int)) = ((a + m - (m - k) : Nat) : Int) := by rw [htl]; omega
    have hbody : ∀ st, emendlaw04_DirectCovers_j3 l (a : Int) (n : Int) x () = some st → emendlaw04_DirectCovers_b2 l (linesOf l) ((a : Int), (n : Int)) = some st := by
      intro st hst
      unfold emendlaw04_DirectCovers_b2
      simp only [hx, chkB, andB, orB, condAnd, condOr, iteB, neqB, nltB, nleB, m8_9, m8_10, m8_11, m8_12, m8_13, m8_32, m8_34, m8_35, m8_39, m8_40, m8_41, m8_42, m8_43, m8_44, m8_45, m8_46, m8_47, m8_48, m8_60, m8_62, m8_64, m8_65, m8_67, m8_69, m8_80, m8_90, m8_92, m8_95, m8_97, m8_101, m8_112, m8_122, m8, orO_some, andO_some, Option.bind_some, getD_drop]
      rw [iteT (ltT (by omega)), eqT x2, ltF (a := x.n) (by omega)]
      rw [show ((!true) || false) = false from rfl, iteF rfl, eam, pk (by omega), Option.bind_some, ltF (by omega), ltF (a := x.n) (by rw [htl]; omega)]
      rw [iteF (by rfl), pk (by omega), esub, pk (by omega), pk (by omega), pk (by omega)]
      simp only [Int.toNat_natCast]
      rw [hsub, rsame_eq _ _ (by omega), Option.bind_some, decide_eq_true rfl, iteF (by rfl), hin, Option.bind_some]
      exact hst
    unfold emendlaw04_DirectCovers_j3 at hbody
    rw [eam] at hbody
    rcases q4 with ⟨q5, q6⟩ | ⟨t, q5, q6, q7⟩
    · refine ⟨(((a + m : Nat) : Int), ((n + 1 : Nat) : Int)), hbody _ ?_, a + m, rfl, rfl, by omega, ?_⟩
      · simp only [chkB, andB, orB, condAnd, condOr, iteB, neqB, nltB, nleB, m8_9, m8_10, m8_11, m8_12, m8_13, m8_32, m8_34, m8_35, m8_39, m8_40, m8_41, m8_42, m8_43, m8_44, m8_45, m8_46, m8_47, m8_48, m8_60, m8_62, m8_64, m8_65, m8_67, m8_69, m8_80, m8_90, m8_92, m8_95, m8_97, m8_101, m8_112, m8_122, m8, orO_some, andO_some, Option.bind_some, getD_drop]
        rw [pk (by omega), iteF (ltF (by omega)), pk (by omega)]; rfl
      · rw [q6] at hp; injection hp with _ hp
        rw [hp, List.drop_of_length_le (by omega)]; simp [piecesF]
    · rw [List.getElem?_drop] at q5
      have hlt : a + m < l.length := (List.getElem?_eq_some_iff.1 q5).1
      refine ⟨(((a + m + 1 : Nat) : Int), ((n + 1 : Nat) : Int)), hbody _ ?_, a + m + 1, rfl, rfl, by omega, ?_⟩
      · simp only [chkB, andB, orB, condAnd, condOr, iteB, neqB, nltB, nleB, m8_9, m8_10, m8_11, m8_12, m8_13, m8_32, m8_34, m8_35, m8_39, m8_40, m8_41, m8_42, m8_43, m8_44, m8_45, m8_46, m8_47, m8_48, m8_60, m8_62, m8_64, m8_65, m8_67, m8_69, m8_80, m8_90, m8_92, m8_95, m8_97, m8_101, m8_112, m8_122, m8, orO_some, andO_some, Option.bind_some, getD_drop]
        rw [pk (by omega), iteT (ltT (by omega)), ix_of q5 rfl, Option.bind_some, iteF (by rw [eqT q6]; rfl), pk (by omega), pk (by omega)]; rfl
      · rw [q7] at hp; injection hp with _ hp
        rw [hp, List.drop_drop]; rfl) (by
    rintro ⟨at_, nn⟩ ⟨a, e1, e2, ha, hp⟩
    simp only at e1 e2; subst e1; subst e2
    rw [List.drop_length] at hp
    have hal : a = l.length := by
      rcases pieces_head (l.drop a) a a (Nat.le_refl _) with ⟨q1, q2⟩ | ⟨q1, m, q2, q3, q4⟩
      · have := congrArg List.length q1; rw [List.length_drop] at this; simp at this; omega
      · rcases q4 with ⟨_, q5⟩ | ⟨_, _, _, q5⟩ <;> (rw [q5] at hp; cases hp)
    refine ⟨.inl (a : Int), ?_, by rw [hal]⟩
    unfold emendlaw04_DirectCovers_b2
    simp only [chkB, andB, orB, condAnd, condOr, iteB, neqB, nltB, nleB, m8_9, m8_10, m8_11, m8_12, m8_13, m8_32, m8_34, m8_35, m8_39, m8_40, m8_41, m8_42, m8_43, m8_44, m8_45, m8_46, m8_47, m8_48, m8_60, m8_62, m8_64, m8_65, m8_67, m8_69, m8_80, m8_90, m8_92, m8_95, m8_97, m8_101, m8_112, m8_122, m8, orO_some, andO_some, Option.bind_some, getD_drop]
    exact iteF (ltF (by omega)))
  rw [g1, Option.bind_some]
  show emendlaw04_DirectCovers_j1 true l (l.length : Int) = some true
  unfold emendlaw04_DirectCovers_j1
  simp [andO]
end Go.Sh
