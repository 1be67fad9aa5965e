/-
  choice in plain words: begin, turned, Merge. No program in sight.
-/
import Derived.Test.YtffgaoehhmgbjaaDoorM3
set_option linter.unusedVariables false
set_option linter.unusedSimpArgs false
namespace Go.Sh
open Go Go.Vc.Bdd
/-- how much two lists begin with alike -/
def lcp : List GTok → List GTok → Nat
  | x :: s, y :: t => if x = y then lcp s t + 1 else 0
  | _, _ => 0
theorem lcp_le : ∀ (s t : List GTok), lcp s t ≤ s.length ∧ lcp s t ≤ t.length
  | [], t => ⟨Nat.le_refl _, Nat.zero_le _⟩
  | x :: s, [] => ⟨Nat.zero_le _, Nat.le_refl _⟩
  | x :: s, y :: t => by
    have := lcp_le s t
    unfold lcp
    split
    · simp only [List.length_cons]; omega
    · exact ⟨Nat.zero_le _, Nat.zero_le _⟩
theorem lcp_at : ∀ (s t : List GTok) (k : Nat) (h1 : k < s.length) (h2 : k < t.length), k < lcp s t → s[k] = t[k]
  | x :: s, y :: t, k, h1, h2, h => by
    unfold lcp at h
    split at h
    · rename_i e
      cases k with
      | zero => exact e
      | succ k => exact lcp_at s t k (by simpa using h1) (by simpa using h2) (by omega)
    · omega
  | [], _, _, h, _, _ => absurd h (Nat.not_lt_zero _)
  | _ :: _, [], _, _, h, _ => absurd h (Nat.not_lt_zero _)
theorem lcp_ge : ∀ (s t : List GTok) (k : Nat), k ≤ s.length → k ≤ t.length → (∀ j (h1 : j < s.length) (h2 : j < t.length), j < k → s[j] = t[j]) → k ≤ lcp s t
  | _, _, 0, _, _, _ => Nat.zero_le _
  | x :: s, y :: t, k + 1, h1, h2, h => by
    unfold lcp
    rw [if_pos (show x = y from h 0 (by simp) (by simp) (by omega))]
    have := lcp_ge s t k (by simpa using h1) (by simpa using h2) (fun j h1 h2 hj => h (j + 1) (by simpa using h1) (by simpa using h2) (by omega))
    omega
  | [], _, _ + 1, h, _, _ => absurd h (Nat.not_succ_le_zero _)
  | _ :: _, [], _ + 1, _, h, _ => absurd h (Nat.not_succ_le_zero _)
theorem lcp_take : ∀ (s t : List GTok) (k : Nat), k ≤ lcp s t → s.take k = t.take k
  | _, _, 0, _ => by rw [List.take_zero, List.take_zero]
  | x :: s, y :: t, k + 1, h => by
    unfold lcp at h
    split at h
    · rename_i e
      subst e
      rw [List.take_succ_cons, List.take_succ_cons, lcp_take s t k (by omega)]
    · omega
  | [], t, k + 1, h => by unfold lcp at h; omega
  | x :: s, [], k + 1, h => by unfold lcp at h; omega
theorem lcp_self (s : List GTok) : lcp s s = s.length := Nat.le_antisymm (lcp_le s s).1 (lcp_ge s s _ (Nat.le_refl _) (Nat.le_refl _) fun _ _ _ _ => rfl)
def begN (first : List GTok) (others : List (List GTok)) : Nat := others.foldl (fun n l => min n (lcp first l)) first.length
theorem foldl_min (first : List GTok) : ∀ (others : List (List GTok)) (n0 : Nat), others.foldl (fun n l => min n (lcp first l)) n0 ≤ n0 ∧ ∀ l ∈ others, others.foldl (fun n l => min n (lcp first l)) n0 ≤ lcp first l
  | [], n0 => ⟨Nat.le_refl _, fun l h => by cases h⟩
  | a :: others, n0 => by
    obtain ⟨h1, h2⟩ := foldl_min first others (min n0 (lcp first a))
    rw [List.foldl_cons]
    exact ⟨Nat.le_trans h1 (Nat.min_le_left _ _), fun l hl => by
      rcases List.mem_cons.1 hl with rfl | hl
      · exact Nat.le_trans h1 (Nat.min_le_right _ _)
      · exact h2 l hl⟩
theorem foldl_att (first : List GTok) : ∀ (others : List (List GTok)) (n0 : Nat), others.foldl (fun n l => min n (lcp first l)) n0 = n0 ∨ ∃ l ∈ others, others.foldl (fun n l => min n (lcp first l)) n0 = lcp first l
  | [], n0 => .inl rfl
  | a :: others, n0 => by
    rw [List.foldl_cons]
    rcases foldl_att first others (min n0 (lcp first a)) with h | ⟨l, h1, h2⟩
    · rcases Nat.le_total n0 (lcp first a) with h3 | h3
      · left; rw [h]; exact Nat.min_eq_left h3
      · right; exact ⟨a, List.mem_cons_self .., by rw [h]; exact Nat.min_eq_right h3⟩
    · exact .inr ⟨l, List.mem_cons_of_mem _ h1, h2⟩
theorem begN_le (first : List GTok) (others : List (List GTok)) : begN first others ≤ first.length := (foldl_min first others _).1
theorem begN_mem (first : List GTok) (others : List (List GTok)) : ∀ l ∈ others, begN first others ≤ lcp first l := (foldl_min first others _).2
theorem begN_att (first : List GTok) (others : List (List GTok)) : begN first others = first.length ∨ ∃ l ∈ others, begN first others = lcp first l := foldl_att first others _
theorem begin_in (first y : List GTok) (N : Nat) (hN : N ≤ first.length) (hf : first.length ≤ 1000000) (hy : y.length ≤ 1000000) : loopS (choice_begin_b4 first (N : Int) y) ((if (y.length : Int) < (N : Int) then (y.length : Int) else (N : Int)), (0 : Int)) = some ((min N (lcp first y) : Nat) : Int) := by
  have hl := lcp_le first y
  have em : (if (y.length : Int) < (N : Int) then (y.length : Int) else (N : Int)) = ((min y.length N : Nat) : Int) := by split <;> omega
  obtain ⟨r, h1, h2⟩ := loopS_ix (f := choice_begin_b4 first (N : Int) y) (min y.length N) (by omega) (fun k x => x = (((min y.length N : Nat) : Int), (k : Int)) ∧ k ≤ lcp first y) (fun r => r = ((min N (lcp first y) : Nat) : Int)) (s0 := ((if (y.length : Int) < (N : Int) then (y.length : Int) else (N : Int)), (0 : Int))) ⟨by rw [em]; rfl, Nat.zero_le _⟩ (by
    rintro k x hk ⟨rfl, hkl⟩
    have hk1 : k < y.length := by omega
    have hk2 : k < first.length := by omega
    have kk : I64 ((k : Int) + 1) := i64_small (by omega) (by omega)
    have hlt : (k : Int) < (if (y.length : Int) < (N : Int) then (y.length : Int) else (N : Int)) := by rw [em]; omega
    by_cases e : y[k] = first[k]
    · left
      refine ⟨(((min y.length N : Nat) : Int), (k : Int) + 1), ?_, by rw [fl_nat], ?_⟩
      · unfold choice_begin_b4
        simp only [dT hlt, if_true, ix_at hk1, ix_at hk2, Option.bind_some, dT e, Bool.not_true, Bool.false_eq_true, if_false]
        rw [chkB, pk kk]
      · exact lcp_ge first y (k + 1) (by omega) (by omega) fun j h1 h2 hj => by
          by_cases ej : j = k
          · subst ej; exact e.symm
          · exact lcp_at first y j h1 h2 (by omega)
    · right
      refine ⟨(k : Int), ?_, ?_⟩
      · unfold choice_begin_b4
        simp only [dT hlt, if_true, ix_at hk1, ix_at hk2, Option.bind_some, dF e, Bool.not_false]
      · have : lcp first y = k := by
          rcases Nat.lt_or_ge k (lcp first y) with h | h
          · exact absurd (lcp_at first y k hk2 hk1 h).symm e
          · omega
        omega) (by
    rintro x ⟨rfl, hkl⟩
    refine ⟨((min y.length N : Nat) : Int), ?_, by omega⟩
    have hlt : ¬ ((min y.length N : Nat) : Int) < (if (y.length : Int) < (N : Int) then (y.length : Int) else (N : Int)) := by rw [em]; omega
    unfold choice_begin_b4
    simp only [dF hlt, Bool.false_eq_true, if_false])
  rw [h1, h2]
theorem begin_ok (first : List GTok) (others : List (List GTok)) (hf : first.length ≤ 1000000) (ho : others.length ≤ 1000000) (hs : ∀ l ∈ others, l.length ≤ 1000000) : choice_begin first others = some ((begN first others : Nat) : Int) := by
  unfold choice_begin
  obtain ⟨r, h1, h2⟩ := loopS_ix (f := choice_begin_b2 first others) others.length (by omega) (fun k x => x = (((begN first (others.take k) : Nat) : Int), (k : Int))) (fun r => r = ((begN first others : Nat) : Int)) (s0 := ((first.length : Int), (0 : Int))) rfl (by
    rintro k x hk rfl
    left
    have hlt : (k : Int) < (others.length : Int) := by omega
    have kk : I64 ((k : Int) + 1) := i64_small (by omega) (by omega)
    refine ⟨(((begN first (others.take (k + 1)) : Nat) : Int), (k : Int) + 1), ?_, by rw [fl_nat]⟩
    unfold choice_begin_b2
    simp only [dT hlt, if_true, ix_at hk, Option.bind_some]
    rw [begin_in first _ _ (begN_le _ _) hf (hs _ (List.getElem_mem hk)), Option.bind_some]
    unfold choice_begin_j3
    rw [chkB, pk kk, take_push others k hk]
    unfold begN
    rw [List.foldl_append]; rfl) (by
    rintro x rfl
    refine ⟨_, ?_, rfl⟩
    unfold choice_begin_b2
    simp only [dF (show ¬ (others.length : Int) < (others.length : Int) by omega), Bool.false_eq_true, if_false]
    rw [List.take_length])
  rw [h1, Option.bind_some, h2]; rfl
theorem turned_ok (lists : List (List GTok)) (hl : lists.length ≤ 1000000) (hs : ∀ l ∈ lists, l.length ≤ 1000000) : choice_turned lists = some (lists.map List.reverse) := by
  unfold choice_turned
  obtain ⟨r, h1, h2⟩ := loopS_ix (f := choice_turned_b2 lists) lists.length (by omega) (fun k x => x = ((k : Int), (lists.take k).map List.reverse)) (fun r => r = lists.map List.reverse) (s0 := ((0 : Int), ([] : List (List GTok)))) rfl (by
    rintro k x hk rfl
    left
    have hlt : (k : Int) < (lists.length : Int) := by omega
    have kk : I64 ((k : Int) + 1) := i64_small (by omega) (by omega)
    have hy := hs _ (List.getElem_mem hk)
    refine ⟨((k : Int) + 1, (lists.take (k + 1)).map List.reverse), ?_, by rw [fl_nat]⟩
    unfold choice_turned_b2
    simp only [dT hlt, if_true, ix_at hk, Option.bind_some]
    rw [chkB, pk (by omega), chkB, pk (by omega), chkB, pk (by rw [List.length_map, List.length_take]; omega), chkB, pk kk, take_push lists k hk, List.map_append]; rfl) (by
    rintro x rfl
    refine ⟨_, ?_, rfl⟩
    unfold choice_turned_b2
    simp only [dF (show ¬ (lists.length : Int) < (lists.length : Int) by omega), Bool.false_eq_true, if_false]
    rw [List.take_length])
  rw [h1, Option.bind_some, h2]; rfl
def c1 (t : GTok) : GChoice_CTok := ⟨t, 1⟩
def a1 (t : GTok) : GTok × (Asg → Bool) := (t, fun _ => true)
theorem Rep.ones {A : GArena} (g : GA A) : ∀ l : List GTok, Rep A (l.map c1) (l.map a1)
  | [] => trivial
  | t :: l => ⟨rfl, Fit.one g, Rep.ones g l⟩
theorem sel_ones (l : List GTok) (s : Asg) : sel (l.map a1) s = l := by
  induction l with
  | nil => rfl
  | cons t l ih => rw [List.map_cons, show a1 t :: l.map a1 = [a1 t] ++ l.map a1 from rfl, sel_append, ih, sel_one]; rfl
theorem head_ok (y : List GTok) (F : Nat) (hy : y.length ≤ 1000000) : loopS (choice_Merge_b6 (F : Int) y) ((0 : Int), ([] : List GChoice_CTok)) = some ((y.take F).map c1) := by
  have hl : (y.take F).length ≤ y.length := by rw [List.length_take]; omega
  obtain ⟨r, h1, h2⟩ := loopS_ix (f := choice_Merge_b6 (F : Int) y) (y.take F).length (by omega) (fun k x => x = ((k : Int), ((y.take F).take k).map c1)) (fun r => r = (y.take F).map c1) (s0 := ((0 : Int), ([] : List GChoice_CTok))) rfl (by
    rintro k x hk rfl
    left
    have hlt : (k : Int) < ((y.take F).length : Int) := by omega
    have kk : I64 ((k : Int) + 1) := i64_small (by omega) (by omega)
    refine ⟨((k : Int) + 1, ((y.take F).take (k + 1)).map c1), ?_, by rw [fl_nat]⟩
    unfold choice_Merge_b6
    simp only [Int.toNat_natCast, dT hlt, if_true, ix_at hk, Option.bind_some]
    rw [chkB, pk (by rw [List.length_map, List.length_take]; omega), chkB, pk kk, take_push _ k hk, List.map_append]; rfl) (by
    rintro x rfl
    refine ⟨_, ?_, rfl⟩
    unfold choice_Merge_b6
    simp only [Int.toNat_natCast, dF (show ¬ ((y.take F).length : Int) < ((y.take F).length : Int) by omega), Bool.false_eq_true, if_false]
    rw [List.take_length])
  rw [h1, h2]
theorem tail_ok (y : List GTok) (T : Nat) (hT : T ≤ y.length) (out : List GChoice_CTok) (hy : y.length ≤ 1000000) (ho : out.length ≤ 1000000) : loopS (choice_Merge_b8 (T : Int) y y) ((0 : Int), out) = some (out ++ (y.drop (y.length - T)).map c1) := by
  have e : ((y.length : Int) - (T : Int)).toNat = y.length - T := by omega
  have hl : (y.drop (y.length - T)).length ≤ y.length := by rw [List.length_drop]; omega
  obtain ⟨r, h1, h2⟩ := loopS_ix (f := choice_Merge_b8 (T : Int) y y) (y.drop (y.length - T)).length (by omega) (fun k x => x = ((k : Int), out ++ ((y.drop (y.length - T)).take k).map c1)) (fun r => r = out ++ (y.drop (y.length - T)).map c1) (s0 := ((0 : Int), out)) (by rw [List.take_zero, List.map_nil, List.append_nil]; rfl) (by
    rintro k x hk rfl
    left
    have hlt : (k : Int) < ((y.drop (y.length - T)).length : Int) := by omega
    have kk : I64 ((k : Int) + 1) := i64_small (by omega) (by omega)
    refine ⟨((k : Int) + 1, out ++ ((y.drop (y.length - T)).take (k + 1)).map c1), ?_, by rw [fl_nat]⟩
    unfold choice_Merge_b8
    simp only [e, dT hlt, if_true, ix_at hk, Option.bind_some]
    rw [chkB, pk (by rw [List.length_append, List.length_map, List.length_take]; omega), chkB, pk kk, take_push _ k hk, List.map_append, List.append_assoc]; rfl) (by
    rintro x rfl
    refine ⟨_, ?_, rfl⟩
    unfold choice_Merge_b8
    simp only [e, dF (show ¬ ((y.drop (y.length - T)).length : Int) < ((y.drop (y.length - T)).length : Int) by omega), Bool.false_eq_true, if_false]
    rw [List.take_length])
  rw [h1, h2]
theorem rest_ok (lists : List (List GTok)) (F : Nat) (hl : lists.length ≤ 1000000) (hs : ∀ l ∈ lists, F ≤ l.length) : loopS (choice_Merge_b2 lists (F : Int)) ((0 : Int), ([] : List (List GTok))) = some (lists.map (List.drop F)) := by
  obtain ⟨r, h1, h2⟩ := loopS_ix (f := choice_Merge_b2 lists (F : Int)) lists.length (by omega) (fun k x => x = ((k : Int), (lists.take k).map (List.drop F))) (fun r => r = lists.map (List.drop F)) (s0 := ((0 : Int), ([] : List (List GTok)))) rfl (by
    rintro k x hk rfl
    left
    have hlt : (k : Int) < (lists.length : Int) := by omega
    have kk : I64 ((k : Int) + 1) := i64_small (by omega) (by omega)
    have hy := hs _ (List.getElem_mem hk)
    refine ⟨((k : Int) + 1, (lists.take (k + 1)).map (List.drop F)), ?_, by rw [fl_nat]⟩
    unfold choice_Merge_b2
    simp only [dT hlt, if_true, ix_at hk, Option.bind_some, Int.toNat_natCast]
    rw [chkB, pk ⟨by omega, by omega⟩, chkB, pk (by rw [List.length_map, List.length_take]; omega), chkB, pk kk, take_push lists k hk, List.map_append]; rfl) (by
    rintro x rfl
    refine ⟨_, ?_, rfl⟩
    unfold choice_Merge_b2
    simp only [dF (show ¬ (lists.length : Int) < (lists.length : Int) by omega), Bool.false_eq_true, if_false]
    rw [List.take_length])
  rw [h1, h2]
def midOf (T : Nat) (r : List GTok) : List GTok := r.take (r.length - T)
structure MidR (v : Nat) (rest : List (List GTok)) (T : Nat) (t : Nat) (M : CL) : Prop where
  len : M.length ≤ ((rest.take t).map fun r => r.length - T).sum
  on : ∀ n (hn : n < rest.length), n < t → sel M (asg n) = midOf T rest[n]
  off : ∀ n, t ≤ n → n < rest.length → ∀ o ∈ M, o.2 (asg n) = false
  some_ : ∀ o ∈ M, ∃ s, o.2 s = true
theorem sum_le (T : Nat) : ∀ (l : List (List GTok)), (∀ r ∈ l, r.length ≤ 1000) → (l.map fun r => r.length - T).sum ≤ l.length * 1000
  | [], _ => Nat.zero_le _
  | r :: l, h => by
    have h1 := sum_le T l fun r hr => h r (List.mem_cons_of_mem _ hr)
    have h2 := h r (List.mem_cons_self ..)
    rw [List.map_cons, List.sum_cons, List.length_cons]; omega
theorem mid_ok {A : GArena} (g : GA A) (rest : List (List GTok)) (T : Nat) (hl : rest.length = 2 ^ A.v) (hs : ∀ r ∈ rest, r.length ≤ 1000 ∧ T ≤ r.length) : ∃ mid B, loopS (choice_Merge_b4 rest (T : Int)) (([] : List GChoice_CTok), (0 : Int), A) = some (mid, B) ∧ GA B ∧ AExt A B ∧ ∃ M, Rep B mid M ∧ MidR A.v rest T rest.length M := by
  have h3 := g.v3
  have h8 : 2 ^ A.v ≤ 8 := by
    have : A.v = 0 ∨ A.v = 1 ∨ A.v = 2 ∨ A.v = 3 := by omega
    rcases this with e | e | e | e <;> rw [e] <;> decide
  obtain ⟨⟨mid, B⟩, h1, h2⟩ := loopS_ix (f := choice_Merge_b4 rest (T : Int)) rest.length (by omega) (fun k x => x.2.1 = (k : Int) ∧ GA x.2.2 ∧ AExt A x.2.2 ∧ ∃ M, Rep x.2.2 x.1 M ∧ MidR A.v rest T k M) (fun r => GA r.2 ∧ AExt A r.2 ∧ ∃ M, Rep r.2 r.1 M ∧ MidR A.v rest T rest.length M) (s0 := (([] : List GChoice_CTok), (0 : Int), A)) ⟨rfl, g, AExt.refl A, [], trivial, by simp, fun n hn h => absurd h (Nat.not_lt_zero _), fun n _ _ o ho => (nomatch ho), fun o ho => (nomatch ho)⟩ (by
    rintro t ⟨mid, x, B⟩ ht ⟨rfl, gB, eB, M, hM, hR⟩
    replace gB : GA B := gB; replace eB : AExt A B := eB; replace hM : Rep B mid M := hM
    left
    have hlt : (t : Int) < (rest.length : Int) := by omega
    have kk : I64 ((t : Int) + 1) := i64_small (by omega) (by omega)
    obtain ⟨hy, hT⟩ := hs _ (List.getElem_mem ht)
    have e : ((rest[t].length : Int) - (T : Int)).toNat = rest[t].length - T := by omega
    have hml := hR.len
    have hsum := sum_le T (rest.take t) fun r hr => (hs r (List.mem_of_mem_take hr)).1
    rw [List.length_take] at hsum
    have hMl := hM.len
    obtain ⟨c, C, s1, s2, s3, s4⟩ := set_ok gB (n := t) (by omega)
    rw [eB.v] at s4
    obtain ⟨mid', D, i1, i2, i3, O, i4, i5⟩ := into_ok s2 (m := midOf T rest[t]) (hM.ext gB s3) s4 (by omega) (by unfold midOf; rw [List.length_take]; omega)
    have ha : ∀ n, n < rest.length → same A.v t (asg n) = decide (n = t) := fun n hn => same_asg (by omega) (by omega)
    refine ⟨(mid', (t : Int) + 1, D), ?_, fl_nat t, i2, eB.trans (s3.trans i3), O, i4, ?_, ?_, ?_, ?_⟩
    · unfold choice_Merge_b4
      simp only [dT hlt, if_true, ix_at ht, Option.bind_some]
      rw [chkB, pk (i64_small (by omega) (by omega)), chkB, pk ⟨by omega, by omega⟩, s1, Option.bind_some, e]
      simp only
      rw [show rest[t].take (rest[t].length - T) = midOf T rest[t] from rfl, i1, Option.bind_some, chkB, pk kk]
    · have := i5.len
      rw [take_push rest t ht, List.map_append, List.sum_append]
      have e2 : (midOf T rest[t]).length = rest[t].length - T := by unfold midOf; rw [List.length_take]; omega
      have e3 : ([rest[t]].map fun r : List GTok => r.length - T).sum = rest[t].length - T := by simp
      rw [e3]; omega
    · intro n hn hnt
      by_cases en : n = t
      · subst en
        exact i5.on _ (by rw [ha n hn, dT rfl]) (fun p hp => hR.off n (Nat.le_refl _) hn p hp)
      · rw [i5.off _ (by rw [ha n hn, dF en])]
        exact hR.on n hn (by omega)
    · intro n hnt hn o ho
      cases ho2 : o.2 (asg n) with
      | false => rfl
      | true =>
        rcases i5.dn o ho _ ho2 with h | ⟨p, hp, h⟩
        · rw [ha n hn, dF (by omega)] at h; cases h
        · rw [hR.off n (by omega) hn p hp] at h; cases h
    · intro o ho
      rcases i5.up o ho with ⟨p, hp, h⟩ | h
      · obtain ⟨s, hs⟩ := hR.some_ p hp
        exact ⟨s, h s hs⟩
      · exact ⟨asg t, h _ (by rw [ha t ht, dT rfl])⟩) (by
    rintro ⟨mid, x, B⟩ ⟨rfl, gB, eB, M, hM, hR⟩
    refine ⟨(mid, B), ?_, gB, eB, M, hM, hR⟩
    unfold choice_Merge_b4
    simp only [dF (show ¬ (rest.length : Int) < (rest.length : Int) by omega), Bool.false_eq_true, if_false])
  exact ⟨mid, B, h1, h2⟩
/-- what all lists begin with -/
def headN (lists : List (List GTok)) : Nat := begN (lists.headD []) (lists.drop 1)
/-- what they end with behind that -/
def tailN (lists : List (List GTok)) : Nat := headN ((lists.map (List.drop (headN lists))).map List.reverse)
theorem headN_le (lists : List (List GTok)) : ∀ l ∈ lists, headN lists ≤ l.length ∧ l.take (headN lists) = (lists.headD []).take (headN lists) := by
  intro l hl
  cases lists with
  | nil => cases hl
  | cons a r =>
    rcases List.mem_cons.1 hl with rfl | hl
    · exact ⟨begN_le _ _, rfl⟩
    · have h1 := begN_mem a r l hl
      have h2 := lcp_le a l
      exact ⟨Nat.le_trans h1 h2.2, (lcp_take a l _ h1).symm⟩
theorem tailN_le (lists : List (List GTok)) : ∀ r ∈ lists.map (List.drop (headN lists)), tailN lists ≤ r.length ∧ r.drop (r.length - tailN lists) = ((lists.map (List.drop (headN lists))).headD []).drop (((lists.map (List.drop (headN lists))).headD []).length - tailN lists) := by
  intro r hr
  obtain ⟨rest, hrest⟩ : ∃ rest, rest = lists.map (List.drop (headN lists)) := ⟨_, rfl⟩
  unfold tailN
  rw [← hrest] at hr ⊢
  have hh : ∀ r ∈ rest, headN (rest.map List.reverse) ≤ r.length ∧ r.reverse.take (headN (rest.map List.reverse)) = ((rest.map List.reverse).headD []).take (headN (rest.map List.reverse)) := fun r hr => by
    have := headN_le (rest.map List.reverse) r.reverse (List.mem_map_of_mem hr)
    rw [List.length_reverse] at this
    exact this
  obtain ⟨h1, h2⟩ := hh r hr
  refine ⟨h1, ?_⟩
  have e : (rest.map List.reverse).headD [] = (rest.headD []).reverse := by cases rest <;> rfl
  rw [e, List.take_reverse, List.take_reverse] at h2
  exact List.reverse_inj.1 h2
structure MergeR (lists : List (List GTok)) (M : CL) : Prop where
  on : ∀ n (hn : n < lists.length), lists[n] = (lists.headD []).take (headN lists) ++ (sel M (asg n) ++ (((lists.map (List.drop (headN lists))).headD []).drop (((lists.map (List.drop (headN lists))).headD []).length - tailN lists)))
  some_ : ∀ o ∈ M, ∃ s, o.2 s = true
  len : headN lists + M.length + tailN lists ≤ (lists.map List.length).sum
def mergeL (lists : List (List GTok)) (M : CL) : CL := ((lists.headD []).take (headN lists)).map a1 ++ (M ++ (((lists.map (List.drop (headN lists))).headD []).drop (((lists.map (List.drop (headN lists))).headD []).length - tailN lists)).map a1)
theorem sum_parts (F T : Nat) : ∀ (lists : List (List GTok)), lists ≠ [] → (∀ l ∈ lists, F ≤ l.length ∧ T ≤ (l.drop F).length) → F + ((lists.map (List.drop F)).map fun r => r.length - T).sum + T ≤ (lists.map List.length).sum
  | [], h, _ => (h rfl).elim
  | [a], _, h => by
    obtain ⟨h1, h2⟩ := h a (List.mem_singleton.2 rfl)
    rw [List.length_drop] at h2
    simp; omega
  | a :: b :: l, _, h => by
    have ih := sum_parts F T (b :: l) (by simp) (fun x hx => h x (List.mem_cons_of_mem _ hx))
    rw [List.map_cons, List.map_cons, List.sum_cons, List.map_cons (f := List.length), List.sum_cons, List.length_drop]
    omega
theorem merge_ok {A : GArena} (g : GA A) (lists : List (List GTok)) (hl : lists.length = 2 ^ A.v) (hs : ∀ l ∈ lists, l.length ≤ 1000) : ∃ out B, choice_Merge A lists = some ((out, 0), B) ∧ GA B ∧ AExt A B ∧ ∃ M, Rep B out (mergeL lists M) ∧ MergeR lists M := by
  have h3 := g.v3
  have h8 : 2 ^ A.v ≤ 8 := by
    have : A.v = 0 ∨ A.v = 1 ∨ A.v = 2 ∨ A.v = 3 := by omega
    rcases this with e | e | e | e <;> rw [e] <;> decide
  have h1 : 1 ≤ 2 ^ A.v := Nat.one_le_two_pow
  cases hlists : lists with
  | nil => rw [hlists] at hl; simp at hl; omega
  | cons a l0 =>
  rw [← hlists]
  have ha : lists.headD [] = a := by rw [hlists]; rfl
  have hne : lists ≠ [] := by rw [hlists]; simp
  have ix0 : ix lists (0 : Int) = some a := by rw [hlists]; rfl
  have hd1 : lists.drop 1 = l0 := by rw [hlists]; rfl
  have hsa := hs a (by rw [hlists]; exact List.mem_cons_self ..)
  obtain ⟨F, hF⟩ : ∃ F, F = headN lists := ⟨_, rfl⟩
  have hFN : headN lists = begN a l0 := by unfold headN; rw [ha, hd1]
  have hin := headN_le lists
  rw [ha, ← hF] at hin
  obtain ⟨rest, hrest⟩ : ∃ rest, rest = lists.map (List.drop F) := ⟨_, rfl⟩
  have hrl : rest.length = lists.length := by rw [hrest, List.length_map]
  have hrs : ∀ r ∈ rest, r.length ≤ 1000 := fun r hr => by
    rw [hrest] at hr
    obtain ⟨l, hl, rfl⟩ := List.mem_map.1 hr
    have := hs l hl
    rw [List.length_drop]; omega
  obtain ⟨T, hT⟩ : ∃ T, T = tailN lists := ⟨_, rfl⟩
  have htl := tailN_le lists
  rw [← hF, ← hrest, ← hT] at htl
  have hrest0 : rest = a.drop F :: l0.map (List.drop F) := by rw [hrest, hlists]; rfl
  have hr0 : rest.headD [] = a.drop F := by rw [hrest0]; rfl
  rw [hr0] at htl
  have ixr : ix rest (0 : Int) = some (a.drop F) := by rw [hrest0]; rfl
  have hback : rest.map List.reverse = (a.drop F).reverse :: (l0.map (List.drop F)).map List.reverse := by rw [hrest0]; rfl
  have ixb : ix (rest.map List.reverse) (0 : Int) = some (a.drop F).reverse := by rw [hback]; rfl
  have hTN : T = begN (a.drop F).reverse ((rest.map List.reverse).drop 1) := by
    rw [hT]; unfold tailN; rw [← hF, ← hrest]; unfold headN; rw [hback]; rfl
  obtain ⟨mid, B, m1, m2, m3, M, m4, m5⟩ := mid_ok g rest T (by omega) (fun r hr => ⟨hrs r hr, (htl r hr).1⟩)
  have hMl := m4.len
  have hml := m5.len
  rw [List.take_length] at hml
  have hsum := sum_le T rest hrs
  have haF : F ≤ a.length := (hin a (by rw [hlists]; exact List.mem_cons_self ..)).1
  have haT : T ≤ (a.drop F).length := (htl (a.drop F) (by rw [hrest0]; exact List.mem_cons_self ..)).1
  have hdl : (a.drop F).length = a.length - F := List.length_drop ..
  refine ⟨((a.take F).map c1 ++ mid) ++ ((a.drop F).drop ((a.drop F).length - T)).map c1, B, ?_, m2, m3, M, ?_, ?_⟩
  · unfold choice_Merge
    rw [show bdd_Vars A = some ((A.v : Int), A) from rfl, Option.bind_some]
    simp only
    rw [chkB, pk (by omega), shl_one A.v (by omega), dT (show (lists.length : Int) = ((2 ^ A.v : Nat) : Int) by omega)]
    simp only [Bool.not_true, Bool.false_eq_true, if_false]
    rw [ix0, Option.bind_some, chkB, pk ⟨by omega, by omega⟩, show ((1 : Int)).toNat = 1 from rfl, hd1, begin_ok a l0 (by omega) (by have : lists.length = l0.length + 1 := by rw [hlists]; rfl
                                                                                                                                     omega) (fun l hl => by have := hs l (by rw [hlists]; exact List.mem_cons_of_mem _ hl); omega), Option.bind_some, ← hFN, ← hF,
      rest_ok lists F (by omega) (fun l hl => (hin l hl).1), Option.bind_some, ← hrest]
    unfold choice_Merge_j1
    try simp only
    rw [turned_ok rest (by omega) (fun r hr => by have := hrs r hr; omega), Option.bind_some, ixb, Option.bind_some, chkB, pk ⟨by omega, by rw [List.length_map]; omega⟩, show ((1 : Int)).toNat = 1 from rfl, begin_ok _ _ (by rw [List.length_reverse]; omega) (by rw [List.length_drop, List.length_map]; omega) (fun r hr => by
        obtain ⟨r', hr', rfl⟩ := List.mem_map.1 (List.mem_of_mem_drop hr)
        rw [List.length_reverse]; have := hrs r' hr'; omega), Option.bind_some, ← hTN, m1, Option.bind_some]
    unfold choice_Merge_j3
    try simp only
    rw [ix0, Option.bind_some, chkB, pk ⟨by omega, by omega⟩, head_ok a F (by omega), Option.bind_some]
    unfold choice_Merge_j5
    try simp only
    rw [chkB, pk (by rw [List.length_map, List.length_take]; omega), ixr, Option.bind_some, Option.bind_some, chkB, pk (i64_small (by omega) (by omega)), chkB, pk ⟨by omega, by omega⟩, tail_ok (a.drop F) T haT _ (by omega) (by rw [List.length_append, List.length_map, List.length_take]; omega), Option.bind_some]
    rfl
  · unfold mergeL
    rw [← hF, ← hrest, ← hT, ha, hr0, List.append_assoc]
    exact (Rep.ones m2 _).append (m4.append (Rep.ones m2 _))
  · refine ⟨fun n hn => ?_, m5.some_, ?_⟩
    · rw [← hF, ← hrest, ← hT, ha, hr0]
      have hnr : n < rest.length := by omega
      have hm := List.getElem_mem hn
      obtain ⟨q1, q2⟩ := htl rest[n] (List.getElem_mem hnr)
      rw [m5.on n hnr hnr, ← q2]
      unfold midOf
      rw [List.take_append_drop]
      have : rest[n] = lists[n].drop F := by simp only [hrest, List.getElem_map]
      rw [this, ← (hin _ hm).2, List.take_append_drop]
    · rw [← hF, ← hT]
      have := sum_parts F T lists hne fun l hl => ⟨(hin l hl).1, (htl (l.drop F) (by rw [hrest]; exact List.mem_map_of_mem hl)).1⟩
      rw [← hrest] at this
      omega
end Go.Sh
