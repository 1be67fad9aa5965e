/-
  try
-/
import Derived.Test.YtffgaoehhmgbjaaDoorPt
import Derived.Test.YtffgaoehhmgbjaaDoorSh
namespace Go.Sh
open Go
def tabRow (x : GTok) : List GTok → List Int → List Int
  | [], _ => [0]
  | y :: m, b => (if x = y then (b.drop 1).headD 0 + 1 else (if b.headD 0 < (tabRow x m (b.drop 1)).headD 0 then (tabRow x m (b.drop 1)).headD 0 else b.headD 0)) :: tabRow x m (b.drop 1)
def tabL : List GChoice_CTok → List GTok → List (List Int)
  | [], m => [List.replicate (m.length + 1) 0]
  | c :: l, m => tabRow c.t m ((tabL l m).headD []) :: tabL l m
def choice_table (l : List GChoice_CTok) (m : List GTok) : Option (List (List Int)) := Sh.chk (l.length ≤ 1000000 ∧ m.length ≤ 1000000) (some (tabL l m))
theorem tabRow_len (x : GTok) : ∀ (m : List GTok) (b : List Int), (tabRow x m b).length = m.length + 1
  | [], _ => rfl
  | y :: m, b => by unfold tabRow; rw [List.length_cons, tabRow_len x m, List.length_cons]
theorem tabRow_last (x : GTok) : ∀ (m : List GTok) (b : List Int), (tabRow x m b)[m.length]? = some 0
  | [], _ => rfl
  | y :: m, b => by unfold tabRow; rw [List.length_cons, List.getElem?_cons_succ]; exact tabRow_last x m _
theorem tabRow_at (x : GTok) : ∀ (m : List GTok) (b : List Int) (k : Nat) (hk : k < m.length) (u v w : Int), b[k]? = some u → b[k + 1]? = some v → (tabRow x m b)[k + 1]? = some w → (tabRow x m b)[k]? = some (if x = m[k] then v + 1 else (if u < w then w else u))
  | [], b, k, hk, _, _, _, _, _, _ => absurd hk (Nat.not_lt_zero _)
  | y :: m, b, 0, hk, u, v, w, h1, h2, h3 => by
    unfold tabRow at h3 ⊢
    rw [List.getElem?_cons_succ] at h3
    have e1 : b.headD 0 = u := by cases b with | nil => simp at h1 | cons a b => simpa using h1
    have e2 : (b.drop 1).headD 0 = v := by
      have : (b.drop 1)[0]? = some v := by rw [List.getElem?_drop]; exact h2
      cases hb : b.drop 1 with | nil => rw [hb] at this; simp at this | cons a c => rw [hb] at this; simpa using this
    have e3 : (tabRow x m (b.drop 1)).headD 0 = w := by
      cases hb : tabRow x m (b.drop 1) with | nil => rw [hb] at h3; simp at h3 | cons a c => rw [hb] at h3; simpa using h3
    rw [List.getElem?_cons_zero, e1, e2, e3]; rfl
  | y :: m, b, k + 1, hk, u, v, w, h1, h2, h3 => by
    unfold tabRow at h3 ⊢
    rw [List.getElem?_cons_succ] at h3 ⊢
    have := tabRow_at x m (b.drop 1) k (by simpa using hk) u v w (by rw [List.getElem?_drop, Nat.add_comm]; exact h1) (by rw [List.getElem?_drop, Nat.add_comm]; exact h2) h3
    rw [this]; rfl
theorem headD_mem (b : List Int) : b.headD 0 = 0 ∨ b.headD 0 ∈ b := by cases b with | nil => exact .inl rfl | cons a c => exact .inr (List.mem_cons_self ..)
theorem tabRow_bound (x : GTok) (K : Int) (hK : 0 ≤ K) : ∀ (m : List GTok) (b : List Int), (∀ v ∈ b, 0 ≤ v ∧ v ≤ K) → ∀ v ∈ tabRow x m b, 0 ≤ v ∧ v ≤ K + 1
  | [], b, h, v, hv => by unfold tabRow at hv; rw [List.mem_singleton.1 hv]; omega
  | y :: m, b, h, v, hv => by
    have hd : ∀ v ∈ b.drop 1, 0 ≤ v ∧ v ≤ K := fun v hv => h v (List.mem_of_mem_drop hv)
    have ih := tabRow_bound x K hK m (b.drop 1) hd
    unfold tabRow at hv
    rcases List.mem_cons.1 hv with e | hv
    · have h1 : 0 ≤ (b.drop 1).headD 0 ∧ (b.drop 1).headD 0 ≤ K := by rcases headD_mem (b.drop 1) with e | e; rw [e]; omega; exact hd _ e
      have h2 : 0 ≤ b.headD 0 ∧ b.headD 0 ≤ K := by rcases headD_mem b with e | e; rw [e]; omega; exact h _ e
      have h3 : 0 ≤ (tabRow x m (b.drop 1)).headD 0 ∧ (tabRow x m (b.drop 1)).headD 0 ≤ K + 1 := by rcases headD_mem (tabRow x m (b.drop 1)) with e | e; rw [e]; omega; exact ih _ e
      rw [e]
      split
      · omega
      · split <;> omega
    · exact ih v hv
theorem tabL_len : ∀ (l : List GChoice_CTok) (m : List GTok), (tabL l m).length = l.length + 1
  | [], _ => rfl
  | c :: l, m => by unfold tabL; rw [List.length_cons, tabL_len l m, List.length_cons]
theorem tabL_row : ∀ (l : List GChoice_CTok) (m : List GTok), ∀ row ∈ tabL l m, row.length = m.length + 1 ∧ ∀ v ∈ row, 0 ≤ v ∧ v ≤ (l.length : Int)
  | [], m, row, h => by
    unfold tabL at h; rw [List.mem_singleton.1 h]
    exact ⟨by simp, fun v hv => by rw [(List.mem_replicate.1 hv).2]; simp⟩
  | c :: l, m, row, h => by
    have ih := tabL_row l m
    have hh : (tabL l m).headD [] ∈ tabL l m := by
      have := tabL_len l m
      cases ht : tabL l m with | nil => rw [ht] at this; simp at this | cons a b => exact List.mem_cons_self ..
    unfold tabL at h
    rcases List.mem_cons.1 h with e | h
    · rw [e]
      refine ⟨tabRow_len _ _ _, fun v hv => ?_⟩
      have := tabRow_bound c.t (l.length : Int) (by omega) m _ (ih _ hh).2 v hv
      rw [List.length_cons]; omega
    · obtain ⟨h1, h2⟩ := ih row h
      exact ⟨h1, fun v hv => by have := h2 v hv; rw [List.length_cons]; omega⟩
/-- the table from behind -/
theorem tabR_zero (l : List GChoice_CTok) (m : List GTok) : (tabL l m).reverse[0]? = some (List.replicate (m.length + 1) 0) := by
  induction l with
  | nil => rfl
  | cons c l ih =>
    unfold tabL
    rw [List.reverse_cons, List.getElem?_append_left (by rw [List.length_reverse, tabL_len]; omega)]
    exact ih
theorem tabR_succ : ∀ (l : List GChoice_CTok) (m : List GTok) (k : Nat) (hk : k < l.length) (b : List Int), (tabL l m).reverse[k]? = some b → (tabL l m).reverse[k + 1]? = some (tabRow l[l.length - 1 - k].t m b)
  | [], m, k, hk, _, _ => absurd hk (Nat.not_lt_zero _)
  | c :: l, m, k, hk, b, hb => by
    have hlen := tabL_len l m
    unfold tabL at hb ⊢
    rw [List.reverse_cons] at hb ⊢
    by_cases e : k = l.length
    · subst e
      rw [List.getElem?_append_left (by rw [List.length_reverse]; omega)] at hb
      rw [List.getElem?_append_right (by rw [List.length_reverse]; omega), List.length_reverse, hlen, Nat.sub_self]
      have e2 : (tabL l m).headD [] = b := by
        rw [List.getElem?_reverse (by omega), hlen] at hb
        rw [show l.length + 1 - 1 - l.length = 0 by omega] at hb
        cases ht : tabL l m with | nil => rw [ht] at hlen; simp at hlen | cons a c => rw [ht] at hb; simpa using hb
      rw [e2]
      have e3 : (c :: l).length - 1 - l.length = 0 := by rw [List.length_cons]; omega
      simp only [e3, List.getElem_cons_zero, List.getElem?_cons_zero]
    · have hk2 : k < l.length := by rw [List.length_cons] at hk; omega
      rw [List.getElem?_append_left (by rw [List.length_reverse]; omega)] at hb ⊢
      have := tabR_succ l m k hk2 b hb
      rw [this]
      have e3 : (c :: l).length - 1 - k = (l.length - 1 - k) + 1 := by rw [List.length_cons]; omega
      simp only [e3, List.getElem_cons_succ]
theorem tabL_at : ∀ (l : List GChoice_CTok) (m : List GTok) (i : Nat) (hi : i < l.length) (b : List Int), (tabL l m)[i + 1]? = some b → (tabL l m)[i]? = some (tabRow l[i].t m b)
  | [], m, i, hi, _, _ => absurd hi (Nat.not_lt_zero _)
  | c :: l, m, 0, hi, b, hb => by
    unfold tabL at hb ⊢
    rw [List.getElem?_cons_succ] at hb
    rw [List.getElem?_cons_zero]
    have e2 : (tabL l m).headD [] = b := by
      cases ht : tabL l m with | nil => rw [ht] at hb; simp at hb | cons a c => rw [ht] at hb; simpa using hb
    rw [e2]; rfl
  | c :: l, m, i + 1, hi, b, hb => by
    unfold tabL at hb ⊢
    rw [List.getElem?_cons_succ] at hb ⊢
    rw [tabL_at l m i (by simpa using hi) b hb]; rfl
theorem tabL_last : ∀ (l : List GChoice_CTok) (m : List GTok), (tabL l m)[l.length]? = some (List.replicate (m.length + 1) 0)
  | [], m => rfl
  | c :: l, m => by unfold tabL; rw [List.length_cons, List.getElem?_cons_succ]; exact tabL_last l m
theorem choice_table_some {l : List GChoice_CTok} {m : List GTok} {r : List (List Int)} (h : choice_table l m = some r) : l.length ≤ 1000000 ∧ m.length ≤ 1000000 ∧ r = tabL l m := by
  unfold choice_table Sh.chk at h
  split at h
  · rename_i hc; injection h with h; exact ⟨hc.1, hc.2, h.symm⟩
  · cases h
end Go.Sh
