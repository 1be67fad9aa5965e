/-
  The lists of a law's texts; the chapter's examples. No program in sight.
-/
import Derived.Test.YtffgaoehhmgbjaaDoorM4
import Derived.Test.YtffgaoehhmgbjaaDoorA7s
import Derived.Test.YtffgaoehhmgbjaaDoorAm
set_option linter.unusedVariables false
set_option linter.unusedSimpArgs false
namespace Go.Sh
open Go Go.Vc.Bdd
def zT (t : GTok) : GTok := ⟨t.kind, t.text, t.file_, 0, 0, t.blank⟩
def listOf (texts : List (List UInt8)) (i : Nat) : List GTok := (tokens 0 (texts.getD i [])).map zT
def listsL (v : Nat) (texts : List (List UInt8)) : List (List GTok) := (List.range (2 ^ v)).map (listOf texts)
theorem set_mid {α : Type} (P R : List α) (y x : α) (k : Nat) (h : P.length = k) : (P ++ y :: R).set k x = P ++ x :: R := by
  subst h; rw [List.set_append_right _ _ (Nat.le_refl _), Nat.sub_self]; rfl
theorem clear_ok (t : List GTok) (ht : t.length ≤ 1000000) : loopS emendlaw13_lists_b5 ((0 : Int), t) = some (t.map zT) := by
  obtain ⟨r, h1, h2⟩ := loopS_ix (f := emendlaw13_lists_b5) t.length (by omega) (fun k x => x = ((k : Int), (t.take k).map zT ++ t.drop k)) (fun r => r = t.map zT) (s0 := ((0 : Int), t)) (by rw [List.take_zero, List.drop_zero]; rfl) (by
    rintro k x hk rfl
    left
    have hd : t.drop k = t[k] :: t.drop (k + 1) := List.drop_eq_getElem_cons hk
    have hP : ((t.take k).map zT).length = k := by rw [List.length_map, List.length_take]; omega
    have hlen : ((t.take k).map zT ++ t.drop k).length = t.length := by rw [List.length_append, hP, List.length_drop]; omega
    have hlt : (k : Int) < ((((t.take k).map zT ++ t.drop k).length : Nat) : Int) := by rw [hlen]; omega
    have kk : I64 ((k : Int) + 1) := i64_small (by omega) (by omega)
    have e1 : ∀ y : GTok, ix ((t.take k).map zT ++ y :: t.drop (k + 1)) (k : Int) = some y := fun y => by
      rw [ix_nat, List.getElem?_append_right (by rw [hP]; exact Nat.le_refl _), hP, Nat.sub_self]; rfl
    refine ⟨((k : Int) + 1, (t.take (k + 1)).map zT ++ t.drop (k + 1)), ?_, by rw [fl_nat]⟩
    unfold emendlaw13_lists_b5
    simp only [dT hlt, if_true]
    rw [hd, e1, Option.bind_some, Int.toNat_natCast, set_mid _ _ _ _ _ hP, e1, Option.bind_some, set_mid _ _ _ _ _ hP, chkB, pk kk, take_push t k hk, List.map_append, List.append_assoc]
    rfl) (by
    rintro x rfl
    refine ⟨_, ?_, rfl⟩
    unfold emendlaw13_lists_b5
    rw [List.drop_length, List.append_nil, List.take_length]
    simp only [List.length_map, dF (show ¬ (t.length : Int) < (t.length : Int) by omega), Bool.false_eq_true, if_false])
  rw [h1, h2]
theorem lists_ok (vars : Int) (texts : List (List UInt8)) : ∃ r b, emendlaw13_lists vars texts = some (r, b) ∧ (b = true → ∃ v : Nat, vars = (v : Int) ∧ v ≤ 3 ∧ r = listsL v texts ∧ ∀ l ∈ r, l.length ≤ 100) := by
  unfold emendlaw13_lists
  by_cases hv : 0 ≤ vars ∧ vars ≤ 3
  · obtain ⟨v, rfl⟩ : ∃ v : Nat, vars = (v : Int) := ⟨vars.toNat, by omega⟩
    have h3 : v ≤ 3 := by omega
    have h8 : 2 ^ v ≤ 8 := by
      have : v = 0 ∨ v = 1 ∨ v = 2 ∨ v = 3 := by omega
      rcases this with e | e | e | e <;> rw [e] <;> decide
    rw [dF (show ¬ (v : Int) < 0 by omega), orO_false, dF (show ¬ (3 : Int) < (v : Int) by omega), Option.bind_some, if_neg (by decide)]
    obtain ⟨r, h1, h2⟩ := loopS_ix (f := emendlaw13_lists_b2 (v : Int) texts) (2 ^ v) (by omega) (fun k x => x = ((k : Int), (List.range k).map (listOf texts)) ∧ ∀ i, i < k → (texts.getD i []).length ≤ 100) (fun r => r = .inr ([], false) ∨ (r = .inl (listsL v texts) ∧ ∀ i, i < 2 ^ v → (texts.getD i []).length ≤ 100)) (s0 := ((0 : Int), ([] : List (List GTok)))) ⟨rfl, fun i hi => absurd hi (Nat.not_lt_zero _)⟩ (by
      rintro k x hk ⟨rfl, hs⟩
      have hlt : (k : Int) < shl (1 : Int) (v : Int) := by rw [shl_one v (by omega)]; omega
      have kk : I64 ((k : Int) + 1) := i64_small (by omega) (by omega)
      have hb : emendlaw13_lists_b2 (v : Int) texts ((k : Int), (List.range k).map (listOf texts)) = emendlaw13_lists_j3 (k : Int) ((List.range k).map (listOf texts)) (texts.getD k []) := by
        unfold emendlaw13_lists_b2
        simp only
        rw [chkB, pk (by omega), dT hlt, if_pos rfl]
        by_cases ht : k < texts.length
        · rw [dT (by omega), if_pos rfl, ix_at ht, Option.bind_some, List.getD_eq_getElem?_getD, List.getElem?_eq_getElem ht]; rfl
        · rw [dF (by omega), if_neg (by decide), List.getD_eq_getElem?_getD, List.getElem?_eq_none (by omega)]; rfl
      rw [hb]
      unfold emendlaw13_lists_j3
      by_cases hl : (texts.getD k []).length ≤ 100
      · left
        have htl := tokens_len 0 (texts.getD k [])
        refine ⟨((k : Int) + 1, (List.range (k + 1)).map (listOf texts)), ?_, by rw [fl_nat], fun i hi => ?_⟩
        · rw [dF (show ¬ (100 : Int) < ((texts.getD k []).length : Int) by omega), if_neg (by decide), tokens_eq 0 _ (by omega), Option.bind_some, chkB, pk (by rw [List.length_nil]; omega), List.nil_append, clear_ok _ (by omega), Option.bind_some]
          unfold emendlaw13_lists_j4
          rw [chkB, pk (by rw [List.length_map, List.length_range]; omega), chkB, pk kk, List.range_succ, List.map_append]; rfl
        · by_cases e : i = k
          · subst e; exact hl
          · exact hs i (by omega)
      · right
        exact ⟨.inr ([], false), by rw [dT (show (100 : Int) < ((texts.getD k []).length : Int) by omega), if_pos rfl], .inl rfl⟩) (by
      rintro x ⟨rfl, hs⟩
      refine ⟨.inl (listsL v texts), ?_, .inr ⟨rfl, hs⟩⟩
      have hlt : ¬ ((2 ^ v : Nat) : Int) < shl (1 : Int) (v : Int) := by rw [shl_one v (by omega)]; omega
      unfold emendlaw13_lists_b2
      simp only
      rw [chkB, pk (by omega), dF hlt, if_neg (by decide)]; rfl)
    rw [h1, Option.bind_some]
    rcases h2 with rfl | ⟨rfl, h2⟩
    · exact ⟨_, _, rfl, fun h => by cases h⟩
    · refine ⟨_, _, rfl, fun _ => ⟨v, rfl, h3, rfl, fun l hl => ?_⟩⟩
      unfold listsL at hl
      obtain ⟨i, hi, rfl⟩ := List.mem_map.1 hl
      unfold listOf
      rw [List.length_map]
      exact Nat.le_trans (tokens_len 0 _) (h2 i (List.mem_range.1 hi))
  · have hc : (orO (decide (vars < 0)) (some (decide (3 < vars)))) = some true := by
      by_cases h : vars < 0
      · rw [dT h, orO_true]
      · rw [dF h, orO_false, dT (by omega)]
    rw [hc, Option.bind_some, if_pos rfl]
    exact ⟨_, _, rfl, fun h => by cases h⟩
theorem listsL_len (v : Nat) (texts : List (List UInt8)) : (listsL v texts).length = 2 ^ v := by unfold listsL; rw [List.length_map, List.length_range]
theorem awake13 : emendlaw13_awake = some true := by kernel_rfl
theorem sel_mergeL (lists : List (List GTok)) (M : CL) (s : Asg) : sel (mergeL lists M) s = (lists.headD []).take (headN lists) ++ (sel M s ++ (((lists.map (List.drop (headN lists))).headD []).drop (((lists.map (List.drop (headN lists))).headD []).length - tailN lists))) := by
  unfold mergeL; rw [sel_append, sel_append, sel_ones, sel_ones]
theorem merge_sel {lists : List (List GTok)} {M : CL} (h : MergeR lists M) {n : Nat} (hn : n < lists.length) : sel (mergeL lists M) (asg n) = lists[n] := by rw [sel_mergeL, ← h.on n hn]
theorem mergeL_len (lists : List (List GTok)) (M : CL) (hs : ∀ l ∈ lists, l.length ≤ 1000) (hl : lists.length ≤ 8) : (mergeL lists M).length ≤ 1000 + M.length + 1000 := by
  unfold mergeL
  rw [List.length_append, List.length_map, List.length_append, List.length_map, List.length_take, List.length_drop]
  cases lists with
  | nil => simp [tailN, headN]; omega
  | cons a l =>
    have := hs a (List.mem_cons_self ..)
    simp only [List.headD_cons, List.map_cons, List.length_drop]
    omega
theorem pow8 {v : Nat} (h : v ≤ 3) : 2 ^ v ≤ 8 := by
  have : v = 0 ∨ v = 1 ∨ v = 2 ∨ v = 3 := by omega
  rcases this with e | e | e | e <;> rw [e] <;> decide
theorem sum_len : ∀ (l : List (List GTok)), (∀ r ∈ l, r.length ≤ 100) → (l.map List.length).sum ≤ l.length * 100
  | [], _ => Nat.zero_le _
  | r :: l, h => by
    have h1 := sum_len l fun r hr => h r (List.mem_cons_of_mem _ hr)
    have h2 := h r (List.mem_cons_self ..)
    rw [List.map_cons, List.sum_cons, List.length_cons]; omega
/-- all of it, of few names and short lists -/
theorem merge_new {v : Nat} (hv : v ≤ 3) (lists : List (List GTok)) (hl : lists.length = 2 ^ v) (hs : ∀ l ∈ lists, l.length ≤ 100) {A : GArena} (g : GA A) (hA : A.v = v) : ∃ out B, choice_Merge A lists = some ((out, 0), B) ∧ GA B ∧ AExt A B ∧ ∃ M, Rep B out (mergeL lists M) ∧ MergeR lists M ∧ out.length ≤ 10000 := by
  obtain ⟨out, B, h1, h2, h3, M, h4, h5⟩ := merge_ok g lists (by rw [hA]; exact hl) fun l hl => by have := hs l hl; omega
  refine ⟨out, B, h1, h2, h3, M, h4, h5, ?_⟩
  have := h5.len
  have := sum_len lists hs
  have := pow8 hv
  have := mergeL_len lists M (fun l hl => by have := hs l hl; omega) (by omega)
  have := h4.len
  omega
end Go.Sh
