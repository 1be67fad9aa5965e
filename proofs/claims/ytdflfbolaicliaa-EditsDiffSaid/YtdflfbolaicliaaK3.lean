/-
  The document's edits: right, over, before, joined. No program in sight.
-/
import Derived.Test.YtdflfbolaicliaaK2
set_option linter.unusedVariables false
set_option linter.unusedSimpArgs false
namespace Go.Sh
open Go
theorem rright_eq (c : GEdit) (fs : List GFile) : emendref20_Right fs c = some (decide (RightE fs c)) := by
  unfold emendref20_Right
  by_cases h1 : c.file_ < 0
  · rw [dF (show ¬ RightE fs c from fun h => by have := h.1; omega), dT h1]; rfl
  · by_cases h2 : (fs.length : Int) ≤ c.file_
    · rw [dF (show ¬ RightE fs c from fun h => by have := h.2.1; omega), dF h1, dT h2]; rfl
    · obtain ⟨f, hx, ht, _⟩ := ix_in (fs := fs) (i := c.file_) (by omega) (by omega)
      rw [dF h1, dF h2]
      simp only [orO_false, Option.bind_some]
      rw [if_neg (by simp)]
      by_cases h3 : 0 ≤ c.from_
      · rw [dT h3]
        by_cases h4 : c.from_ ≤ c.to
        · have e : decide (RightE fs c) = decide (c.to ≤ (f.text.length : Int)) := by
            by_cases h5 : c.to ≤ (f.text.length : Int)
            · rw [dT h5, dT (show RightE fs c from ⟨by omega, by omega, h3, h4, by rw [← ht]; exact h5⟩)]
            · rw [dF h5, dF (show ¬ RightE fs c from fun h => h5 (by rw [ht]; exact h.2.2.2.2))]
          rw [e, dT h4]
          simp only [andO_true, Option.bind_some, hx]
        · rw [dF (show ¬ RightE fs c from fun h => h4 h.2.2.2.1), dF h4]; rfl
      · rw [dF (show ¬ RightE fs c from fun h => h3 h.2.2.1), dF h3]; rfl
def overR (a b : GEdit) : Prop := a.file_ = b.file_ ∧ ((a.from_ = a.to ∧ b.from_ = b.to) ∧ a.from_ = b.from_ ∨ ¬ (a.from_ = a.to ∧ b.from_ = b.to) ∧ a.from_ < b.to ∧ b.from_ < a.to)
instance (a b : GEdit) : Decidable (overR a b) := inferInstanceAs (Decidable (_ ∧ (_ ∧ _ ∨ _ ∧ _ ∧ _)))
theorem rover_eq (a b : GEdit) : emendref20_Over a b = some (decide (overR a b)) := by
  unfold emendref20_Over
  by_cases h1 : a.file_ = b.file_
  · rw [if_neg (by rw [dT h1]; simp)]
    by_cases h2 : a.from_ = a.to
    · rw [dT h2]
      by_cases h3 : b.from_ = b.to
      · rw [dT h3]
        simp only [andO_true, Option.bind_some, if_true]
        congr 1
        exact decide_eq_decide.2 (by unfold overR; omega)
      · rw [dF h3]
        simp only [andO_true, Option.bind_some, Bool.false_eq_true, if_false]
        by_cases h4 : a.from_ < b.to
        · rw [dT h4]; simp only [andO_true, Option.bind_some]; congr 1; exact decide_eq_decide.2 (by unfold overR; omega)
        · rw [dF h4, dF (show ¬ overR a b by unfold overR; omega)]; rfl
    · rw [dF h2]
      simp only [andO_false, Option.bind_some, Bool.false_eq_true, if_false]
      by_cases h4 : a.from_ < b.to
      · rw [dT h4]; simp only [andO_true, Option.bind_some]; congr 1; exact decide_eq_decide.2 (by unfold overR; omega)
      · rw [dF h4, dF (show ¬ overR a b by unfold overR; omega)]; rfl
  · rw [if_pos (by rw [dF h1]; rfl), dF (show ¬ overR a b from fun h => h1 h.1)]
instance (a b : GEdit) : Decidable (aheadE a b) := inferInstanceAs (Decidable (_ ∨ _ ∧ (_ ∨ _ ∧ _)))
theorem rbefore_eq (a b : GEdit) : emendref20_before a b = some (decide (aheadE a b)) := by
  unfold emendref20_before
  by_cases h1 : a.file_ = b.file_
  · rw [if_neg (by rw [dT h1]; simp)]
    by_cases h2 : a.from_ = b.from_
    · rw [if_neg (by rw [dT h2]; simp)]; congr 1; exact decide_eq_decide.2 (by unfold aheadE; omega)
    · rw [if_pos (by rw [dF h2]; rfl)]; congr 1; exact decide_eq_decide.2 (by unfold aheadE; omega)
  · rw [if_pos (by rw [dF h1]; rfl)]; congr 1; exact decide_eq_decide.2 (by unfold aheadE; omega)
def noT : List GEdit → Prop
  | [] => True
  | x :: r => (∀ y, r.head? = some y → ¬ touch x y) ∧ noT r
theorem noT_of : ∀ {l : List GEdit}, (∀ i, (h : i + 1 < l.length) → ¬ touch l[i] l[i + 1]) → noT l
  | [], _ => trivial
  | [x], _ => ⟨fun y h => (by cases h), trivial⟩
  | x :: y :: r, h => ⟨fun z hz => by
      have : y = z := by simpa using hz
      subst this; exact h 0 (by simp), noT_of fun i hi => h (i + 1) (by simpa using hi)⟩
theorem joinL_cons {x : GEdit} {r : List GEdit} (h : ∀ y, r.head? = some y → ¬ touch x y) : joinL (x :: r) = x :: joinL r := by
  cases r with
  | nil => rfl
  | cons y r => show joinA x (y :: r) = _; rw [joinA, if_neg (h y rfl)]; rfl
theorem joinL_pre : ∀ (p : List GEdit) {c : GEdit} {r : List GEdit}, noT (p ++ [c]) → joinL (p ++ c :: r) = p ++ joinA c r
  | [], c, r, h => rfl
  | x :: p, c, r, h => by
    have h1 : ∀ y, (p ++ c :: r).head? = some y → ¬ touch x y := fun y hy => h.1 y (by cases p with
      | nil => simpa using hy
      | cons z p => simpa using hy)
    rw [List.cons_append, joinL_cons h1, joinL_pre p h.2]; rfl
theorem noT_merge : ∀ (p : List GEdit) {c d : GEdit}, noT (p ++ [c]) → noT (p ++ [merge c d])
  | [], c, d, h => ⟨fun y hy => (by cases hy), trivial⟩
  | [x], c, d, h => ⟨fun y hy => by
      have : merge c d = y := by simpa using hy
      subst this
      exact h.1 c rfl, noT_merge [] h.2⟩
  | x :: y :: p, c, d, h => ⟨fun z hz => h.1 z (by simpa using hz), noT_merge (y :: p) h.2⟩
theorem join_find {p : List GEdit} {c d : GEdit} {r : List GEdit} (h : noT (p ++ [c])) (ht : touch c d) : joinL (p ++ c :: d :: r) = joinL (p ++ merge c d :: r) := by
  rw [joinL_pre p h, joinL_pre p (noT_merge p h), joinA, if_pos ht]
theorem joinL_none : ∀ {l : List GEdit}, noT l → joinL l = l
  | [], _ => rfl
  | x :: r, h => by rw [joinL_cons h.1, joinL_none h.2]
theorem rjoin_loop (J : List GFile → List GEdit → Option (List GEdit)) (fs : List GFile) (l : List GEdit) (hn : l.length ≤ 1000000) (hr : ∀ x ∈ l, RightE fs x) : loopS (emendref20_join_b4 J fs l) ((0 : Int), ([] : List GEdit)) = some (l.filter (nidle fs)) := by
  obtain ⟨r, h1, h2⟩ := loopS_ix (f := emendref20_join_b4 J fs l) l.length (by omega) (fun k x => x = ((k : Int), (l.take k).filter (nidle fs))) (fun r => r = l.filter (nidle fs)) (s0 := ((0 : Int), ([] : List GEdit))) rfl (by
    rintro k x hk rfl
    unfold emendref20_join_b4
    have hlt : (k : Int) < (l.length : Int) := by omega
    obtain ⟨a1, a2, a3, a4, a5⟩ := hr _ (List.getElem_mem hk)
    obtain ⟨f, hx, ht, _⟩ := ix_in a1 a2
    simp only [chkB, dT hlt, if_true, ix_at hk, Option.bind_some, hx]
    rw [← ht] at a5
    rw [pk ⟨a3, a4, a5⟩]
    left
    have hf : (l.take k).filter (nidle fs) ++ (if nidle fs l[k] = true then [l[k]] else []) = (l.take (k + 1)).filter (nidle fs) := by
      rw [List.take_add_one, List.getElem?_eq_getElem hk, List.filter_append, Option.toList_some, List.filter_cons]; cases nidle fs l[k] <;> rfl
    have hlen : ((l.take k).filter (nidle fs)).length ≤ 1000000 := Nat.le_trans (List.length_filter_le _ _) (by rw [List.length_take]; omega)
    have e : nidle fs l[k] = !decide (cut f.text l[k].from_ l[k].to = l[k].text) := by unfold nidle idle; rw [ht]
    by_cases hi : nidle fs l[k] = true
    · rw [if_pos (by rw [e] at hi; exact hi), pk (by omega), pk (i64_small (by omega) (by omega))]
      exact ⟨_, rfl, by rw [fl_nat, ← hf, if_pos hi]⟩
    · rw [if_neg (by rw [e] at hi; exact hi), pk (i64_small (by omega) (by omega))]
      exact ⟨_, rfl, by rw [fl_nat, ← hf, if_neg hi, List.append_nil]⟩) (by
    rintro x rfl
    unfold emendref20_join_b4
    have hlt : ¬ (l.length : Int) < (l.length : Int) := by omega
    rw [List.take_length]
    exact ⟨_, if_neg (by rw [dF hlt]; simp), rfl⟩)
  rw [h1, h2]
theorem sumT_append (a b : List GEdit) : sumT (a ++ b) = sumT a + sumT b := by unfold sumT; simp
theorem rjoinN_eq (fs : List GFile) : ∀ (n : Nat) (l : List GEdit), l.length < n → l.length ≤ 1000000 → sumT l ≤ 1000000000 → (∀ x ∈ l, RightE fs x) → emendref20_joinN n fs l = some ((joinL l).filter (nidle fs))
  | 0, l, h, _, _, _ => by omega
  | n + 1, l, h, hn, ht, hr => by
    show emendref20_joinF (emendref20_joinN n) fs l = _
    unfold emendref20_joinF
    obtain ⟨r, h1, h2⟩ := loopS_ix (f := emendref20_join_b2 (emendref20_joinN n) fs l) (l.length - 1) (by omega) (fun k x => x = ((k + 1 : Nat) : Int) ∧ ∀ i, (h : i + 1 < l.length) → i < k → ¬ touch l[i] l[i + 1]) (fun r => r = .inl () ∧ noT l ∨ r = .inr ((joinL l).filter (nidle fs))) (s0 := (1 : Int)) ⟨rfl, fun i _ h => by omega⟩ (by
      rintro k x hk ⟨rfl, hno⟩
      unfold emendref20_join_b2
      have hk0 : k < l.length := by omega
      have hk1 : k + 1 < l.length := by omega
      have hlt : ((k + 1 : Nat) : Int) < (l.length : Int) := by omega
      have e1 : ((k + 1 : Nat) : Int) - 1 = (k : Int) := by omega
      have e2 : ((k + 1 : Nat) : Int) + 1 = ((k + 2 : Nat) : Int) := by omega
      simp only [chkB, dT hlt, if_true, e1, e2, ix_at hk0, ix_at hk1, Option.bind_some, Int.toNat_natCast]
      rw [pk (i64_small (by omega) (by omega)), pk (i64_small (by omega) (by omega))]
      by_cases hto : touch l[k] l[k + 1]
      · right
        rw [dT hto.1, andO_true, dT hto.2]
        simp only [Option.bind_some, if_true]
        have hd : l.drop k = l[k] :: l[k + 1] :: l.drop (k + 2) := by rw [List.drop_eq_getElem_cons hk0, List.drop_eq_getElem_cons hk1]
        have hl : l = l.take k ++ l[k] :: l[k + 1] :: l.drop (k + 2) := by rw [← hd, List.take_append_drop]
        have hs : sumT l = sumT (l.take k) + (l[k].text.length + (l[k + 1].text.length + sumT (l.drop (k + 2)))) := by
          rw [← sumT_cons, ← sumT_cons, ← hd, ← sumT_append, List.take_append_drop]
        have hm : (⟨l[k + 1].file_, l[k].from_, l[k + 1].to, l[k].text ++ l[k + 1].text⟩ : GEdit) = merge l[k] l[k + 1] := by unfold merge; rw [hto.1]
        rw [pk (i64_small (by omega) (by omega)), pk (i64_small (by omega) (by omega)), pk (by omega), pk (i64_small (by omega) (by omega)), pk ⟨by omega, by omega⟩, pk (by simp; omega), pk (i64_small (by omega) (by omega)), pk ⟨by omega, by omega⟩, pk (by simp; omega), pk (by simp; omega)]
        rw [hm]
        have hlen : (([] : List GEdit) ++ l.take k ++ ([merge l[k] l[k + 1]] ++ l.drop (k + 2))).length = l.length - 1 := by simp; omega
        have hrm : ∀ x ∈ ([] : List GEdit) ++ l.take k ++ ([merge l[k] l[k + 1]] ++ l.drop (k + 2)), RightE fs x := by
          intro x hx
          rcases List.mem_append.1 hx with hx | hx
          · exact hr x (List.mem_of_mem_take (by simpa using hx))
          · rcases List.mem_append.1 hx with hx | hx
            · rw [List.mem_singleton.1 hx]; exact merge_right (hr _ (List.getElem_mem _)) (hr _ (List.getElem_mem _)) hto
            · exact hr x (List.mem_of_mem_drop hx)
        have hsm : sumT (([] : List GEdit) ++ l.take k ++ ([merge l[k] l[k + 1]] ++ l.drop (k + 2))) = sumT l := by
          rw [List.nil_append, sumT_append, List.singleton_append, sumT_cons, hs]
          show _ + ((l[k].text ++ l[k + 1].text).length + _) = _
          rw [List.length_append]; omega
        rw [rjoinN_eq fs n _ (by rw [hlen]; omega) (by rw [hlen]; omega) (by rw [hsm]; exact ht) hrm]
        refine ⟨_, rfl, .inr ?_⟩
        have hno2 : noT (l.take k ++ [l[k]]) := by
          have e3 : l.take k ++ [l[k]] = l.take (k + 1) := by rw [List.take_add_one, List.getElem?_eq_getElem hk0]; rfl
          rw [e3]
          refine noT_of fun i hi => ?_
          rw [List.length_take] at hi
          rw [List.getElem_take, List.getElem_take]
          exact hno i (by omega) (by omega)
        rw [List.nil_append, List.singleton_append, ← join_find hno2 hto, ← hl]
      · left
        have hb : (andO (decide (l[k].file_ = l[k + 1].file_)) (some (decide (l[k].to = l[k + 1].from_)))) = some false := by
          by_cases hf : l[k].file_ = l[k + 1].file_
          · rw [dT hf, dF (fun h => hto ⟨hf, h⟩)]; rfl
          · rw [dF hf]; rfl
        rw [hb]
        simp only [Option.bind_some, Bool.false_eq_true, if_false]
        rw [pk (i64_small (by omega) (by omega))]
        refine ⟨_, rfl, rfl, fun i hi hik => ?_⟩
        by_cases e : i = k
        · subst e; exact hto
        · exact hno i hi (by omega)) (by
      rintro x ⟨rfl, hno⟩
      unfold emendref20_join_b2
      have hlt : ¬ ((l.length - 1 + 1 : Nat) : Int) < (l.length : Int) := by omega
      exact ⟨_, if_neg (by rw [dF hlt]; simp), .inl ⟨rfl, noT_of fun i hi => hno i hi (by omega)⟩⟩)
    rw [h1]
    rcases h2 with ⟨rfl, hno⟩ | rfl
    · show emendref20_join_j1 (emendref20_joinN n) fs l () = _
      unfold emendref20_join_j1
      rw [rjoin_loop _ fs l hn hr, joinL_none hno]; rfl
    · rfl
theorem rjoin_eq {fs : List GFile} {l : List GEdit} (hn : l.length ≤ 1000000) (ht : sumT l ≤ 1000000000) (hr : ∀ x ∈ l, RightE fs x) : emendref20_join fs l = some ((joinL l).filter (nidle fs)) :=
  rjoinN_eq fs _ l (Nat.lt_succ_self _) hn ht hr
end Go.Sh
