/-
  Macros printed: by both; the law MacroTells. No program in sight.
-/
import Derived.Test.YtghnfeflknfclaaDoorG5
set_option linter.unusedVariables false
set_option linter.unusedSimpArgs false
namespace Go.Sh
open Go
theorem joinTail_snoc (sep : List UInt8) (r : List (List UInt8)) (y : List UInt8) : Lib.joinTail sep (r ++ [y]) = Lib.joinTail sep r ++ (sep ++ y) := by
  unfold Lib.joinTail
  rw [List.map_append, List.flatten_append]
  simp
theorem join_snoc (sep : List UInt8) (xs : List (List UInt8)) (y : List UInt8) : Lib.join (xs ++ [y]) sep = if xs = [] then y else Lib.join xs sep ++ (sep ++ y) := by
  cases xs with
  | nil => rw [if_pos rfl, List.nil_append, Lib.join_one]
  | cons x r => rw [if_neg (by simp), List.cons_append, Lib.join_cons, Lib.join_cons, joinTail_snoc, List.append_assoc]
theorem joinTail_len (sep : List UInt8) : ∀ r : List (List UInt8), (Lib.joinTail sep r).length = r.flatten.length + r.length * sep.length
  | [] => by simp [Lib.joinTail]
  | x :: r => by
    have := joinTail_len sep r
    unfold Lib.joinTail at this ⊢
    simp only [List.map_cons, List.flatten_cons, List.length_append, List.length_cons] at this ⊢
    rw [this, Nat.add_mul]; omega
theorem join_len (sep : List UInt8) (xs : List (List UInt8)) : (Lib.join xs sep).length ≤ xs.flatten.length + xs.length * sep.length := by
  cases xs with
  | nil => rw [Lib.join_nil]; simp
  | cons x r =>
    rw [Lib.join_cons, List.length_append, joinTail_len]
    simp only [List.flatten_cons, List.length_append, List.length_cons, Nat.add_mul]; omega
def plist (m : GMacro) : List (List UInt8) := m.params ++ (if m.variadic = true then [dots] else [])
def headM (m : GMacro) : List UInt8 := if m.func = true then m.name ++ ((([40] : List UInt8) ++ Lib.join (plist m) [44, 32]) ++ [41]) else m.name
def printM (m : GMacro) : List UInt8 := if m.body = [] then headM m else (headM m ++ [32]) ++ printT (clear m.body)
theorem printT_clear (l : List GTok) : (printT (clear l)).length ≤ (printT l).length := by
  cases l with
  | nil => exact Nat.le_refl _
  | cons t r =>
    unfold printT clear
    rw [List.flatMap_cons, List.flatMap_cons, List.length_append, List.length_append]
    unfold printOne
    simp only [List.length_append]
    rw [if_neg (by simp)]
    simp
structure Small (m : GMacro) : Prop where
  name : m.name.length ≤ 1000000
  params : m.params.length ≤ 1000000
  flat : m.params.flatten.length ≤ 1000000
  body : m.body.length ≤ 1000000
  text : (printT m.body).length ≤ 1000000
theorem Small.join {m : GMacro} (h : Small m) (xs : List (List UInt8)) (hx : xs = m.params ∨ xs = m.params ++ [dots]) : (Lib.join xs [44, 32]).length ≤ 3000010 ∧ xs.length ≤ 1000001 := by
  have h1 := h.params
  have h2 := h.flat
  have h3 := join_len [44, 32] xs
  rcases hx with rfl | rfl
  · simp only [List.length_cons, List.length_nil] at h3; omega
  · simp only [List.length_cons, List.length_nil, List.length_append, List.flatten_append, List.flatten_cons, List.flatten_nil, List.append_nil] at h3 ⊢
    have : dots.length = 3 := rfl
    omega
theorem mprint_j1 (m : GMacro) (h : Small m) (s : List UInt8) (hs : s.length ≤ 9000000) : macro_Print_j1 m s = some (if m.body = [] then s else (s ++ [32]) ++ printT (clear m.body)) := by
  unfold macro_Print_j1
  have h1 := h.body
  have h2 := printT_clear m.body
  have h3 := h.text
  cases hb : m.body with
  | nil => rfl
  | cons t r =>
    rw [hb] at h1 h2 h3
    have e1 : ((t :: r).set ((0 : Int)).toNat (GTok.mk t.kind t.text t.file_ t.from_ t.to false)) = clear (t :: r) := rfl
    rw [if_neg (by rw [decide_eq_false (by simp only [List.length_cons]; omega)]; simp), chkT (by omega), ix0, Option.bind_some, chkT (by simp only [List.length_cons, List.length_nil]; omega), e1, print_eq _ (by rw [clear_len]; omega) (by omega), Option.bind_some, chkT (by simp only [List.length_append, List.length_cons, List.length_nil]; omega), if_neg (by simp)]
theorem mprint_eq (m : GMacro) (h : Small m) : macro_Print m = some (printM m) := by
  have h1 := h.name
  have h2 := h.params
  unfold macro_Print printM headM
  by_cases hf : m.func = true
  · rw [if_pos hf, if_pos hf, chkT (by omega)]
    have key : ∀ xs, xs = plist m → (xs = m.params ∨ xs = m.params ++ [dots]) → macro_Print_j2 m xs = some (if m.body = [] then m.name ++ ((([40] : List UInt8) ++ Lib.join (plist m) [44, 32]) ++ [41]) else ((m.name ++ ((([40] : List UInt8) ++ Lib.join (plist m) [44, 32]) ++ [41])) ++ [32]) ++ printT (clear m.body)) := by
      intro xs hp hx
      obtain ⟨h3, h4⟩ := h.join xs hx
      subst hp
      unfold macro_Print_j2
      rw [chkT (by omega), chkT (by simp only [List.length_cons, List.length_nil]; omega), chkT (by simp only [List.length_append, List.length_cons, List.length_nil]; omega), chkT (by simp only [List.length_append, List.length_cons, List.length_nil]; omega), mprint_j1 m h _ (by simp only [List.length_append, List.length_cons, List.length_nil]; omega)]
    by_cases hv : m.variadic = true
    · rw [if_pos hv, chkT (by omega)]
      exact key _ (by unfold plist; rw [if_pos hv]; rfl) (.inr rfl)
    · rw [if_neg hv]
      exact key _ (by unfold plist; rw [if_neg hv, List.append_nil]) (.inl rfl)
  · rw [if_neg hf, if_neg hf, mprint_j1 m h _ (by omega)]
theorem rprint_j1 (m : GMacro) (h : Small m) (s : List UInt8) (hs : s.length ≤ 9000000) : emendref06_Print_j1 m s = some (if m.body = [] then s else (s ++ [32]) ++ printT (clear m.body)) := by
  unfold emendref06_Print_j1
  have h1 := h.body
  have h2 := printT_clear m.body
  have h3 := h.text
  by_cases hb : m.body = []
  · rw [if_pos hb, hb]; rfl
  · have hl : m.body.length ≠ 0 := fun e => hb (List.eq_nil_of_length_eq_zero e)
    rw [if_neg hb, if_neg (by rw [decide_eq_false (by omega)]; simp), chkT (by simp only [List.length_cons, List.length_nil]; omega), bare_eq _ (by omega), Option.bind_some, rprint_eq _ (by rw [clear_len]; omega) (by omega), Option.bind_some, chkT (by simp only [List.length_append, List.length_cons, List.length_nil]; omega)]
theorem take_flat (m : GMacro) (h : Small m) (k : Nat) : (Lib.join (m.params.take k) [44, 32]).length ≤ 3000000 := by
  have h1 := h.params
  have h2 := h.flat
  have h3 := join_len [44, 32] (m.params.take k)
  have h4 : (m.params.take k).flatten.length ≤ m.params.flatten.length := by
    conv => rhs; rw [← List.take_append_drop k m.params, List.flatten_append, List.length_append]
    omega
  have h5 : (m.params.take k).length ≤ m.params.length := by rw [List.length_take]; omega
  simp only [List.length_cons, List.length_nil] at h3
  omega
theorem rprint_loop (m : GMacro) (h : Small m) : loopS (emendref06_Print_b3 m) (m.name ++ [40], 0) = some ((m.name ++ [40]) ++ Lib.join m.params [44, 32]) := by
  have h1 := h.name
  have h2 := h.params
  have h9 := h.flat
  obtain ⟨r, g1, g2⟩ := loopS_ix (f := emendref06_Print_b3 m) m.params.length (by omega) (fun k x => x = ((m.name ++ [40]) ++ Lib.join (m.params.take k) [44, 32], (k : Int))) (fun r => r = (m.name ++ [40]) ++ Lib.join m.params [44, 32]) (s0 := (m.name ++ [40], (0 : Int))) (by
    rw [List.take_zero, Lib.join_nil, List.append_nil]; rfl) (by
    rintro k x hk rfl
    left
    have hj := take_flat m h k
    have hp : m.params[k].length ≤ 1000000 := by
      have h4 : m.params[k].length ≤ m.params.flatten.length := by
        conv => rhs; rw [← List.take_append_drop k m.params, List.drop_eq_getElem_cons hk, List.flatten_append, List.flatten_cons, List.length_append, List.length_append]
        omega
      omega
    unfold emendref06_Print_b3
    simp only []
    refine ⟨_, ?_, rfl⟩
    rw [if_pos (decide_eq_true (by omega)), List.take_add_one, List.getElem?_eq_getElem hk, show (some m.params[k]).toList = [m.params[k]] from rfl, join_snoc]
    by_cases h0 : k = 0
    · subst h0
      rw [if_neg (by simp), if_pos (by rfl)]
      unfold emendref06_Print_j4
      rw [ix_at hk, Option.bind_some, chkT (by simp only [List.length_append, List.length_cons, List.length_nil]; omega), chkT (by omega), List.take_zero, Lib.join_nil, List.append_nil]
      push_cast; rfl
    · have hne : ¬ m.params.take k = [] := fun e => by
        have := congrArg List.length e
        rw [List.length_take, List.length_nil] at this; omega
      rw [if_pos (decide_eq_true (by omega)), chkT (by simp only [List.length_append, List.length_cons, List.length_nil]; omega), if_neg hne]
      unfold emendref06_Print_j4
      rw [ix_at hk, Option.bind_some, chkT (by simp only [List.length_append, List.length_cons, List.length_nil]; omega), chkT (by omega)]
      have : ∀ a b c d : List UInt8, (((a ++ b) ++ c) ++ d) = (a ++ (b ++ (c ++ d))) := by intros; simp
      rw [this]
      push_cast; rfl) (by
    rintro x rfl
    refine ⟨_, ?_, rfl⟩
    rw [List.take_length]
    unfold emendref06_Print_b3
    exact if_neg (by simp))
  rw [g1, g2]
theorem rprintM_eq (m : GMacro) (h : Small m) : emendref06_Print m = some (printM m) := by
  have h1 := h.name
  have h2 := h.params
  obtain ⟨h3, h4⟩ := h.join m.params (.inl rfl)
  unfold emendref06_Print printM headM
  by_cases hf : m.func = true
  · rw [if_pos hf, if_pos hf, chkT (by simp only [List.length_cons, List.length_nil]; omega), rprint_loop m h, Option.bind_some]
    unfold emendref06_Print_j2
    rw [andO_some, Option.bind_some]
    have h5 : ∀ s, s.length ≤ 5000000 → emendref06_Print_j5 m s = some (if m.body = [] then s ++ (if m.variadic = true then dots else []) ++ [41] else ((s ++ (if m.variadic = true then dots else []) ++ [41]) ++ [32]) ++ printT (clear m.body)) := by
      intro s hs
      unfold emendref06_Print_j5
      have hd : dots.length = 3 := rfl
      by_cases hv : m.variadic = true
      · rw [if_pos hv, if_pos hv, chkT (by simp only [List.length_cons, List.length_nil]; omega), chkT (by simp only [List.length_append, List.length_cons, List.length_nil]; omega), rprint_j1 m h _ (by simp only [List.length_append, List.length_cons, List.length_nil]; omega)]; rfl
      · rw [if_neg hv, if_neg hv, chkT (by simp only [List.length_cons, List.length_nil]; omega), rprint_j1 m h _ (by simp only [List.length_append, List.length_cons, List.length_nil]; omega), List.append_nil]
    have hfin : ∀ s : List UInt8, s ++ (if m.variadic = true then dots else []) ++ [41] = m.name ++ ((([40] : List UInt8) ++ Lib.join (plist m) [44, 32]) ++ [41]) → s.length ≤ 5000000 → emendref06_Print_j5 m s = some (if m.body = [] then m.name ++ ((([40] : List UInt8) ++ Lib.join (plist m) [44, 32]) ++ [41]) else (m.name ++ ((([40] : List UInt8) ++ Lib.join (plist m) [44, 32]) ++ [41]) ++ [32]) ++ printT (clear m.body)) := fun s e hs => by
      rw [h5 s hs, e]
    by_cases hc : (m.variadic && decide ((0 : Int) < (m.params.length : Int))) = true
    · rw [if_pos hc, chkT (by simp only [List.length_append, List.length_cons, List.length_nil]; omega)]
      simp only [Bool.and_eq_true, decide_eq_true_eq] at hc
      refine hfin _ ?_ (by simp only [List.length_append, List.length_cons, List.length_nil]; omega)
      unfold plist
      rw [if_pos hc.1, if_pos hc.1, join_snoc, if_neg (fun e => by rw [e] at hc; simp at hc)]
      simp
    · rw [if_neg hc]
      refine hfin _ ?_ (by simp only [List.length_append, List.length_cons, List.length_nil]; omega)
      unfold plist
      by_cases hv : m.variadic = true
      · have hp : m.params = [] := by
          rw [hv] at hc
          simp only [Bool.true_and, decide_eq_true_eq] at hc
          exact List.eq_nil_of_length_eq_zero (by omega)
        rw [if_pos hv, if_pos hv, hp, join_snoc, if_pos rfl, Lib.join_nil]
        simp
      · rw [if_neg hv, if_neg hv, List.append_nil]
        simp
  · rw [if_neg hf, if_neg hf, rprint_j1 m h _ (by omega)]
/-! ### sizes -/
theorem printT_cons (t : GTok) (l : List GTok) : (printT (t :: l)).length = (printOne t).length + (printT l).length := by
  unfold printT; rw [List.flatMap_cons, List.length_append]
theorem text_le (t : GTok) : t.text.length ≤ (printOne t).length := by unfold printOne; rw [List.length_append]; omega
theorem paramsL_size (n : Nat) : ∀ (l : List GTok) (ps ps' : List (List UInt8)) (v : Bool) (r : List GTok), l.length ≤ n → paramsL l ps = some (ps', v, r) → ps'.flatten.length + (printT r).length ≤ ps.flatten.length + (printT l).length := by
  induction n with
  | zero => intro l ps ps' v r hl h; cases l with | nil => cases h | cons t r => simp at hl
  | succ n ih =>
    intro l ps ps' v r0 hl h
    cases l with
    | nil => cases h
    | cons t r =>
      rw [paramsL_cons] at h
      have ht := text_le t
      rw [printT_cons]
      split at h
      · split at h
        · rename_i h5
          injection h with h; injection h with h1 h; injection h with h2 h3
          subst h1; subst h3
          cases r with
          | nil => cases h5
          | cons u r' =>
            rw [printT_cons]
            show _ + (printT r').length ≤ _
            omega
        · cases h
      split at h
      · cases h
      cases r with
      | nil => cases h
      | cons u r' =>
        simp only [] at h
        rw [printT_cons]
        split at h
        · have := ih r' _ _ _ _ (by simp only [List.length_cons] at hl; omega) h
          simp only [List.flatten_append, List.flatten_cons, List.flatten_nil, List.length_append, List.append_nil] at this ⊢
          omega
        split at h
        · injection h with h; injection h with h1 h; injection h with h2 h3
          subst h1; subst h3
          simp only [List.flatten_append, List.flatten_cons, List.flatten_nil, List.length_append, List.append_nil]
          omega
        · cases h
theorem printT_drop (l : List GTok) : (printT (l.drop 1)).length ≤ (printT l).length := by
  cases l with
  | nil => exact Nat.le_refl _
  | cons t r => rw [printT_cons]; show (printT r).length ≤ _; omega
theorem paramsA_size {l : List GTok} {ps : List (List UInt8)} {v : Bool} {r : List GTok} (h : paramsA l = some (ps, v, r)) : ps.flatten.length + (printT r).length ≤ (printT l).length := by
  unfold paramsA at h
  split at h
  · injection h with h; injection h with h1 h; injection h with h2 h3
    subst h1; subst h3
    have := printT_drop l
    simpa using this
  · have := paramsL_size l.length l [] ps v r (Nat.le_refl _) h
    simpa using this
theorem defineF_small (l : List GTok) (h : l.length ≤ 1000000) (hp : (printT l).length ≤ 1000000) : Small (defineF l).1 := by
  have hl := defineF_len l
  refine ⟨?_, by omega, ?_, by omega, ?_⟩ <;>
  · unfold defineF
    cases hS : defineS l with
    | inl e => exact Nat.zero_le _
    | inr m =>
      simp only []
      cases l with
      | nil => cases hS
      | cons t rest =>
        rw [defineS_cons] at hS
        have ht := text_le t
        rw [printT_cons] at hp
        have h2 := printT_drop rest
        split at hS
        · cases hS
        split at hS
        · split at hS
          · cases hS
          · rename_i ps v r hA
            have := withBody_inr hS
            subst this
            have := paramsA_size hA
            have h3 := printT_clear r
            simp only
            omega
        split at hS
        · have := withBody_inr hS
          subst this
          have h3 := printT_clear rest
          simp only [List.flatten_nil, List.length_nil]
          omega
        · cases hS
theorem small_of (s : List UInt8) (h : s.length ≤ 1000000) : Small (defineF (tokens 0 s)).1 := by
  have h1 := tokens_len 0 s
  have h2 := tokens_room 0 s
  exact defineF_small _ (by omega) (by omega)
theorem macroTells_law (s t name : List UInt8) : emendlaw06_MacroTells s t name = some true := by
  unfold emendlaw06_MacroTells
  rw [awake6, Option.bind_some, orO_some, Option.bind_some]
  by_cases hs : 500 < s.length ∨ 500 < t.length
  · rw [if_pos (by
      simp only [Bool.or_eq_true, decide_eq_true_eq]
      rcases hs with hs | hs
      · left; omega
      · right; omega)]
  rw [if_neg (by simp only [Bool.or_eq_true, decide_eq_true_eq]; omega)]
  have h1 := small_of s (by omega)
  have h2 := small_of t (by omega)
  have b1 := h1.params
  have b2 := h1.body
  have b3 := h2.body
  rw [define_eq s (by omega), Option.bind_some, define_eq t (by omega), Option.bind_some, msame_eq _ _ (by omega) (by omega), Option.bind_some, mprint_eq _ h1, Option.bind_some, mparam_eq _ _ (by omega), Option.bind_some, rsameM_eq _ _ (by omega) (by omega) (by omega), Option.bind_some, rprintM_eq _ h1, Option.bind_some, rparam_eq _ _ (by omega), Option.bind_some]
  simp [andO]
end Go.Sh
