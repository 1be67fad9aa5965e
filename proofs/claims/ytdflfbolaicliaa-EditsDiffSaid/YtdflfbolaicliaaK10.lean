/-
  What differs, as edits: EditsDiff in plain words. No program in sight.
-/
import Derived.Test.YtdflfbolaicliaaK9
set_option linter.unusedVariables false
set_option linter.unusedSimpArgs false
namespace Go.Sh
open Go
/-- how much two texts begin with alike -/
def cpl : List UInt8 → List UInt8 → Nat
  | x :: s, y :: t => if x = y then cpl s t + 1 else 0
  | _, _ => 0
theorem cpl_le : ∀ (s t : List UInt8), cpl s t ≤ s.length ∧ cpl s t ≤ t.length ∧ s.take (cpl s t) = t.take (cpl s t) ∧ ∀ (h1 : cpl s t < s.length) (h2 : cpl s t < t.length), s[cpl s t] ≠ t[cpl s t]
  | [], t => ⟨Nat.le_refl _, Nat.zero_le _, by simp [cpl], fun h1 => absurd h1 (Nat.not_lt_zero _)⟩
  | x :: s, [] => ⟨Nat.zero_le _, Nat.le_refl _, by simp [cpl], fun _ h2 => absurd h2 (Nat.not_lt_zero _)⟩
  | x :: s, y :: t => by
    obtain ⟨a1, a2, a3, a4⟩ := cpl_le s t
    by_cases e : x = y
    · subst e
      have hc : cpl (x :: s) (x :: t) = cpl s t + 1 := if_pos rfl
      refine ⟨by rw [hc, List.length_cons]; omega, by rw [hc, List.length_cons]; omega, by rw [hc, List.take_succ_cons, List.take_succ_cons, a3], fun h1 h2 => ?_⟩
      simp only [hc, List.getElem_cons_succ]
      exact a4 _ _
    · have hc : cpl (x :: s) (y :: t) = 0 := if_neg e
      refine ⟨by rw [hc]; exact Nat.zero_le _, by rw [hc]; exact Nat.zero_le _, by rw [hc]; rfl, fun h1 h2 => ?_⟩
      simp only [hc, List.getElem_cons_zero]
      exact e
theorem cpl_drop (s t : List UInt8) (k : Nat) (h1 : k < s.length) (h2 : k < t.length) : cpl (s.drop k) (t.drop k) = if s[k] = t[k] then cpl (s.drop (k + 1)) (t.drop (k + 1)) + 1 else 0 := by
  rw [List.drop_eq_getElem_cons h1, List.drop_eq_getElem_cons h2]; rfl
theorem cpl_end (s t : List UInt8) (k : Nat) (h : s.length ≤ k ∨ t.length ≤ k) : cpl (s.drop k) (t.drop k) = 0 := by
  rcases h with h | h
  · rw [List.drop_eq_nil_of_le h]; rfl
  · rw [List.drop_eq_nil_of_le h]; cases s.drop k <;> rfl
def minI (a b : Int) : Int := if b < a then b else a
theorem from_loop (f g : GFile) (hf : f.text.length ≤ 1000000) : loopS (edits_Diff_b4 f g) (0 : Int) = some ((cpl f.text g.text : Nat) : Int) := by
  obtain ⟨r, h1, h2⟩ := loopS_ix (f := edits_Diff_b4 f g) (min f.text.length g.text.length) (by omega) (fun k x => x = (k : Int) ∧ cpl f.text g.text = k + cpl (f.text.drop k) (g.text.drop k)) (fun r => r = ((cpl f.text g.text : Nat) : Int)) (s0 := (0 : Int)) ⟨rfl, by simp⟩ (by
    rintro k x hk ⟨rfl, h⟩
    unfold edits_Diff_b4
    have hm : (k : Int) < (if (g.text.length : Int) < (f.text.length : Int) then (g.text.length : Int) else (f.text.length : Int)) := by split <;> omega
    have hk1 : k < f.text.length := by omega
    have hk2 : k < g.text.length := by omega
    simp only [chkB, dT hm, andO_true, ix_at hk1, ix_at hk2, Option.bind_some]
    rw [cpl_drop _ _ _ hk1 hk2] at h
    by_cases e : f.text[k] = g.text[k]
    · left
      rw [if_pos e] at h
      rw [dT (u8i _ _ |>.2 e), if_pos rfl, pk (i64_small (by omega) (by omega))]
      exact ⟨_, rfl, fl_nat k, by omega⟩
    · right
      rw [if_neg e] at h
      rw [dF (fun hh => e ((u8i _ _).1 hh))]
      exact ⟨_, rfl, by omega⟩) (by
    rintro x ⟨rfl, h⟩
    unfold edits_Diff_b4
    have hm : ¬ ((min f.text.length g.text.length : Nat) : Int) < (if (g.text.length : Int) < (f.text.length : Int) then (g.text.length : Int) else (f.text.length : Int)) := by split <;> omega
    rw [cpl_end _ _ _ (by omega)] at h
    rw [dF hm]
    exact ⟨_, rfl, by omega⟩)
  rw [h1, h2]
def sfx (f g : GFile) : Nat := cpl (f.text.drop (cpl f.text g.text)).reverse (g.text.drop (cpl f.text g.text)).reverse
theorem last_loop (f g : GFile) (hf : f.text.length ≤ 1000000) (hg : g.text.length ≤ 1000000) : loopS (edits_Diff_b6 f g ((cpl f.text g.text : Nat) : Int)) (0 : Int) = some ((sfx f g : Nat) : Int) := by
  obtain ⟨c1, c2, _, _⟩ := cpl_le f.text g.text
  generalize hc : cpl f.text g.text = c at *
  obtain ⟨S, hS⟩ : ∃ S, S = (f.text.drop c).reverse := ⟨_, rfl⟩
  obtain ⟨U, hU⟩ : ∃ U, U = (g.text.drop c).reverse := ⟨_, rfl⟩
  have hsf : sfx f g = cpl S U := by unfold sfx; rw [hc, hS, hU]
  have hSl : S.length = f.text.length - c := by rw [hS, List.length_reverse, List.length_drop]
  have hUl : U.length = g.text.length - c := by rw [hU, List.length_reverse, List.length_drop]
  rw [hsf]
  obtain ⟨r, h1, h2⟩ := loopS_ix (f := edits_Diff_b6 f g (c : Int)) (min S.length U.length) (by omega) (fun k x => x = (k : Int) ∧ cpl S U = k + cpl (S.drop k) (U.drop k)) (fun r => r = ((cpl S U : Nat) : Int)) (s0 := (0 : Int)) ⟨rfl, by simp⟩ (by
    rintro k x hk ⟨rfl, h⟩
    unfold edits_Diff_b6
    have hm : (k : Int) < (if (g.text.length : Int) < (f.text.length : Int) then (g.text.length : Int) else (f.text.length : Int)) - (c : Int) := by split <;> omega
    have hm2 : I64 ((if (g.text.length : Int) < (f.text.length : Int) then (g.text.length : Int) else (f.text.length : Int)) - (c : Int)) := i64_small (by split <;> omega) (by split <;> omega)
    have hk1 : k < S.length := by omega
    have hk2 : k < U.length := by omega
    have e1 : (f.text.length : Int) - 1 - (k : Int) = ((f.text.length - 1 - k : Nat) : Int) := by omega
    have e2 : (g.text.length : Int) - 1 - (k : Int) = ((g.text.length - 1 - k : Nat) : Int) := by omega
    have g1 : f.text.length - 1 - k < f.text.length := by omega
    have g2 : g.text.length - 1 - k < g.text.length := by omega
    have s1 : S[k] = f.text[f.text.length - 1 - k] := by
      subst hS
      rw [List.getElem_reverse, List.getElem_drop]; congr 1; rw [List.length_drop]; omega
    have s2 : U[k] = g.text[g.text.length - 1 - k] := by
      subst hU
      rw [List.getElem_reverse, List.getElem_drop]; congr 1; rw [List.length_drop]; omega
    simp only [chkB, dT hm, andO_true, e1, e2, ix_at g1, ix_at g2, Option.bind_some]
    rw [pk hm2, pk (i64_small (by omega) (by omega)), pk (i64_small (by omega) (by omega)), pk (i64_small (by omega) (by omega)), pk (i64_small (by omega) (by omega))]
    rw [cpl_drop _ _ _ hk1 hk2, s1, s2] at h
    by_cases e : f.text[f.text.length - 1 - k] = g.text[g.text.length - 1 - k]
    · left
      rw [if_pos e] at h
      rw [dT (u8i _ _ |>.2 e)]
      simp only [Option.bind_some, if_true]
      rw [pk (i64_small (by omega) (by omega))]
      exact ⟨_, rfl, fl_nat k, by omega⟩
    · right
      rw [if_neg e] at h
      rw [dF (fun hh => e ((u8i _ _).1 hh))]
      exact ⟨_, rfl, by omega⟩) (by
    rintro x ⟨rfl, h⟩
    unfold edits_Diff_b6
    have hm : ¬ ((min S.length U.length : Nat) : Int) < (if (g.text.length : Int) < (f.text.length : Int) then (g.text.length : Int) else (f.text.length : Int)) - (c : Int) := by split <;> omega
    have hm2 : I64 ((if (g.text.length : Int) < (f.text.length : Int) then (g.text.length : Int) else (f.text.length : Int)) - (c : Int)) := i64_small (by split <;> omega) (by split <;> omega)
    rw [cpl_end _ _ _ (by omega)] at h
    simp only [chkB]
    rw [pk hm2, dF hm]
    exact ⟨_, rfl, by omega⟩)
  rw [h1, h2]
def mkE (i : Int) (f g : GFile) : GEdit := ⟨i, (cpl f.text g.text : Nat), (f.text.length : Int) - (sfx f g : Nat), (g.text.drop (cpl f.text g.text)).take ((g.text.length - sfx f g) - cpl f.text g.text)⟩
structure MidE (f g : GFile) (c l : Nat) : Prop where
  hc : c = cpl f.text g.text
  hl : l = sfx f g
  b1 : c + l ≤ f.text.length
  b2 : c + l ≤ g.text.length
  pre : f.text.take c = g.text.take c
  suf : f.text.drop (f.text.length - l) = g.text.drop (g.text.length - l)
  dif1 : ∀ (h1 : c < f.text.length) (h2 : c < g.text.length), f.text[c] ≠ g.text[c]
  dif2 : ∀ (h1 : c + l < f.text.length) (h2 : c + l < g.text.length), f.text[f.text.length - 1 - l] ≠ g.text[g.text.length - 1 - l]
theorem mid_of (f g : GFile) : ∃ c l, MidE f g c l := by
  obtain ⟨a1, a2, a3, a4⟩ := cpl_le f.text g.text
  obtain ⟨c, hc⟩ : ∃ c, c = cpl f.text g.text := ⟨_, rfl⟩
  rw [← hc] at a1 a2 a3 a4
  have hs : sfx f g = cpl (f.text.drop c).reverse (g.text.drop c).reverse := by unfold sfx; rw [hc]
  obtain ⟨d1, d2, d3, d4⟩ := cpl_le (f.text.drop c).reverse (g.text.drop c).reverse
  rw [← hs] at d1 d2 d3 d4
  rw [List.length_reverse, List.length_drop] at d1 d2
  have hcc : ∀ s : List UInt8, c + sfx f g ≤ s.length → ((s.drop c).reverse.take (sfx f g)) = (s.drop (s.length - sfx f g)).reverse := fun s h => by
    rw [List.take_reverse, List.length_drop, List.drop_drop]
    rw [show c + (s.length - c - sfx f g) = s.length - sfx f g by omega]
  rw [hcc _ (by omega), hcc _ (by omega)] at d3
  refine ⟨c, sfx f g, hc, rfl, by omega, by omega, a3, List.reverse_inj.1 d3, a4, fun h1 h2 => ?_⟩
  have h3 : sfx f g < (f.text.drop c).reverse.length := by rw [List.length_reverse, List.length_drop]; omega
  have h4 : sfx f g < (g.text.drop c).reverse.length := by rw [List.length_reverse, List.length_drop]; omega
  have h5 := d4 h3 h4
  rw [List.getElem_reverse, List.getElem_reverse, List.getElem_drop, List.getElem_drop] at h5
  intro h6
  apply h5
  have e1 : c + ((f.text.drop c).length - 1 - sfx f g) = f.text.length - 1 - sfx f g := by rw [List.length_drop]; omega
  have e2 : c + ((g.text.drop c).length - 1 - sfx f g) = g.text.length - 1 - sfx f g := by rw [List.length_drop]; omega
  simp only [e1, e2]
  exact h6
section mid
variable {f g : GFile} {c l : Nat} (h : MidE f g c l)
include h
theorem MidE.mkE' (i : Int) : mkE i f g = ⟨i, (c : Nat), ((f.text.length - l : Nat) : Int), (g.text.drop c).take ((g.text.length - l) - c)⟩ := by
  unfold mkE
  rw [← h.hc, ← h.hl]
  have := h.b1
  congr 1; omega
theorem MidE.cutE (i : Int) : cut f.text (mkE i f g).from_ (mkE i f g).to = (f.text.drop c).take ((f.text.length - l) - c) := by
  rw [h.mkE']; unfold cut; simp
theorem MidE.whole : f.text.take c ++ (g.text.drop c).take ((g.text.length - l) - c) ++ f.text.drop (f.text.length - l) = g.text := by
  rw [h.pre, h.suf, List.append_assoc]
  have e : (g.text.drop c).take ((g.text.length - l) - c) ++ g.text.drop (g.text.length - l) = g.text.drop c := by
    have := List.take_append_drop ((g.text.length - l) - c) (g.text.drop c)
    rw [List.drop_drop, show c + ((g.text.length - l) - c) = g.text.length - l by have := h.b2; omega] at this
    exact this
  rw [e, List.take_append_drop]
theorem MidE.wholeS : f.text.take c ++ (f.text.drop c).take ((f.text.length - l) - c) ++ f.text.drop (f.text.length - l) = f.text := by
  rw [List.append_assoc]
  have e : (f.text.drop c).take ((f.text.length - l) - c) ++ f.text.drop (f.text.length - l) = f.text.drop c := by
    have := List.take_append_drop ((f.text.length - l) - c) (f.text.drop c)
    rw [List.drop_drop, show c + ((f.text.length - l) - c) = f.text.length - l by have := h.b1; omega] at this
    exact this
  rw [e, List.take_append_drop]
theorem MidE.spl1 (i : Int) : spl f.text 0 [mkE i f g] = g.text := by
  rw [h.mkE']
  unfold spl spl cut
  simp only [Int.toNat_natCast, Int.toNat_zero, List.drop_zero, Nat.sub_zero]
  exact h.whole
theorem MidE.nidle1 (i : Int) (hne : f.text ≠ g.text) : (f.text.drop c).take ((f.text.length - l) - c) ≠ (mkE i f g).text := by
  rw [h.mkE']
  intro e
  dsimp only at e
  apply hne
  rw [← h.wholeS, ← h.whole, e]
end mid
def diffL : Nat → List GFile → List GFile → List GEdit
  | i, f :: a, g :: b => if f.text = g.text then diffL (i + 1) a b else mkE (i : Int) f g :: diffL (i + 1) a b
  | _, _, _ => []
theorem diffL_drop (a b : List GFile) (k : Nat) (h1 : k < a.length) (h2 : k < b.length) : diffL k (a.drop k) (b.drop k) = if a[k].text = b[k].text then diffL (k + 1) (a.drop (k + 1)) (b.drop (k + 1)) else mkE (k : Int) a[k] b[k] :: diffL (k + 1) (a.drop (k + 1)) (b.drop (k + 1)) := by
  rw [List.drop_eq_getElem_cons h1, List.drop_eq_getElem_cons h2]; rfl
theorem diffL_len : ∀ (a b : List GFile) (i : Nat), (diffL i a b).length ≤ a.length
  | [], _, _ => Nat.zero_le _
  | _ :: _, [], _ => Nat.zero_le _
  | f :: a, g :: b, i => by
    have := diffL_len a b (i + 1)
    unfold diffL
    split
    · rw [List.length_cons]; omega
    · rw [List.length_cons, List.length_cons]; omega
theorem diff_loop (a b : List GFile) (hl : a.length = b.length) (hn : a.length ≤ 1000000) (ha : ∀ f ∈ a, f.text.length ≤ 1000000) (hb : ∀ f ∈ b, f.text.length ≤ 1000000) : loopS (edits_Diff_b2 a b) ((0 : Int), ([] : List GEdit)) = some (diffL 0 a b) := by
  obtain ⟨r, h1, h2⟩ := loopS_ix (f := edits_Diff_b2 a b) a.length (by omega) (fun k x => x.1 = (k : Int) ∧ x.2.length ≤ k ∧ x.2 ++ diffL k (a.drop k) (b.drop k) = diffL 0 a b) (fun r => r = diffL 0 a b) (s0 := ((0 : Int), ([] : List GEdit))) ⟨rfl, Nat.le_refl _, rfl⟩ (by
    rintro k ⟨x1, out⟩ hk ⟨h1, h2, h3⟩
    dsimp only at h1 h2 h3
    subst h1
    unfold edits_Diff_b2
    have hlt : (k : Int) < (a.length : Int) := by omega
    have hk2 : k < b.length := by omega
    have hfa := ha _ (List.getElem_mem hk)
    have hfb := hb _ (List.getElem_mem hk2)
    left
    rw [diffL_drop a b k hk hk2] at h3
    by_cases e : a[k].text = b[k].text
    · rw [if_pos e] at h3
      refine ⟨((k : Int) + 1, out), ?_, fl_nat k, by dsimp only; omega, h3⟩
      refine (if_pos (dT hlt)).trans ?_
      rw [ix_at hk, ix_at hk2, Option.bind_some, Option.bind_some, if_pos (dT e), chkB, pk (i64_small (by omega) (by omega))]
    · rw [if_neg e] at h3
      refine ⟨((k : Int) + 1, out ++ [mkE (k : Int) a[k] b[k]]), ?_, fl_nat k, by simp; omega, by rw [List.append_assoc]; exact h3⟩
      refine (if_pos (dT hlt)).trans ?_
      rw [ix_at hk, ix_at hk2, Option.bind_some, Option.bind_some, if_neg (by rw [dF e]; simp), from_loop _ _ hfa, Option.bind_some]
      show edits_Diff_j3 (k : Int) out a[k] b[k] ((cpl a[k].text b[k].text : Nat) : Int) = _
      unfold edits_Diff_j3
      rw [last_loop _ _ hfa hfb, Option.bind_some]
      unfold edits_Diff_j5
      obtain ⟨c, l, hm⟩ := mid_of a[k] b[k]
      rw [← hm.hc, ← hm.hl]
      have b1 := hm.b1; have b2 := hm.b2
      simp only [chkB]
      rw [pk (i64_small (by omega) (by omega)), pk (i64_small (by omega) (by omega)), pk ⟨by omega, by omega, by omega⟩, pk (by omega), pk (i64_small (by omega) (by omega))]
      rw [hm.mkE']
      have e1 : (a[k].text.length : Int) - (l : Int) = ((a[k].text.length - l : Nat) : Int) := by omega
      have e2 : (b[k].text.length : Int) - (l : Int) = ((b[k].text.length - l : Nat) : Int) := by omega
      rw [e1, e2]
      simp only [Int.toNat_natCast]) (by
    rintro ⟨x1, out⟩ ⟨h1, h2, h3⟩
    dsimp only at h1 h2 h3
    subst h1
    unfold edits_Diff_b2
    have hlt : ¬ (a.length : Int) < (a.length : Int) := by omega
    refine ⟨_, if_neg (by rw [dF hlt]; simp), ?_⟩
    rw [List.drop_length] at h3
    rw [← h3]; exact (List.append_nil _).symm)
  rw [h1, h2]
theorem paths_eq (a b : List GFile) (ha : a.length ≤ 1000000) : slices_EqualFunc_Lapi_File_Lapi_File_api_File_api_File__edits_Diff_c1 a b = some (decide (a.map GFile.path = b.map GFile.path)) := by
  unfold slices_EqualFunc_Lapi_File_Lapi_File_api_File_api_File__edits_Diff_c1
  by_cases hl : a.length = b.length
  · rw [if_neg (by rw [dT (show (a.length : Int) = b.length by omega)]; simp)]
    rw [loopS_sameB a b GFile.path false (by omega) hl (fun k h h2 => by
      unfold slices_EqualFunc_Lapi_File_Lapi_File_api_File_api_File__edits_Diff_c1_b2
      have hlt : (k : Int) < (a.length : Int) := by omega
      unfold edits_Diff_c1
      simp only [chkB, dT hlt, if_true, ix_at h, ix_at h2, Option.bind_some]
      by_cases e : a[k].path = b[k].path
      · rw [if_neg (by rw [dT e]; simp), if_pos e, pk (i64_small (by omega) (by omega)), fl_nat]
      · rw [if_pos (by rw [dF e]; rfl), if_neg e]) (by
      unfold slices_EqualFunc_Lapi_File_Lapi_File_api_File_api_File__edits_Diff_c1_b2
      have hlt : ¬ (a.length : Int) < (a.length : Int) := by omega
      exact if_neg (by rw [dF hlt]; simp))]
    by_cases e : a.map GFile.path = b.map GFile.path
    · rw [if_pos e, dT e]; rfl
    · rw [if_neg e, dF e]; rfl
  · rw [if_pos (by rw [dF (show ¬ (a.length : Int) = b.length by omega)]; rfl), dF (fun e => hl (by have := congrArg List.length e; simpa using this))]
theorem diff_eq {a b : List GFile} (hp : a.map GFile.path = b.map GFile.path) (hn : a.length ≤ 1000000) (ha : ∀ f ∈ a, f.text.length ≤ 1000000) (hb : ∀ f ∈ b, f.text.length ≤ 1000000) : edits_Diff a b = some (diffL 0 a b, 0) := by
  unfold edits_Diff
  rw [paths_eq a b hn, Option.bind_some, if_neg (by rw [dT hp]; simp), diff_loop a b (by have := congrArg List.length hp; simpa using this) hn ha hb]
  rfl
theorem diff_bad {a b : List GFile} (hp : ¬ a.map GFile.path = b.map GFile.path) (hn : a.length ≤ 1000000) : edits_Diff a b = some ([], 1) := by
  unfold edits_Diff
  rw [paths_eq a b hn, Option.bind_some, if_pos (by rw [dF hp]; rfl)]
theorem diffL_mem : ∀ (a b : List GFile) (i : Nat) (e : GEdit), e ∈ diffL i a b → ∃ j f g, a[j]? = some f ∧ b[j]? = some g ∧ f.text ≠ g.text ∧ e = mkE ((i + j : Nat) : Int) f g
  | [], _, _, e, h => by cases h
  | _ :: _, [], _, e, h => by cases h
  | f :: a, g :: b, i, e, h => by
    unfold diffL at h
    by_cases he : f.text = g.text
    · rw [if_pos he] at h
      obtain ⟨j, f', g', h1, h2, h3, h4⟩ := diffL_mem a b (i + 1) e h
      exact ⟨j + 1, f', g', h1, h2, h3, by rw [h4]; congr 2; omega⟩
    · rw [if_neg he] at h
      rcases List.mem_cons.1 h with h | h
      · exact ⟨0, f, g, rfl, rfl, he, h⟩
      · obtain ⟨j, f', g', h1, h2, h3, h4⟩ := diffL_mem a b (i + 1) e h
        exact ⟨j + 1, f', g', h1, h2, h3, by rw [h4]; congr 2; omega⟩
theorem mkE_file (i : Int) (f g : GFile) : (mkE i f g).file_ = i := rfl
theorem mkE_ord (i : Int) (f g : GFile) : (mkE i f g).from_ ≤ (mkE i f g).to := by
  obtain ⟨c, l, hm⟩ := mid_of f g
  rw [hm.mkE']; have := hm.b1
  show ((c : Nat) : Int) ≤ ((f.text.length - l : Nat) : Int); omega
theorem diffL_gap : ∀ (a b : List GFile) (i : Nat), (diffL i a b).Pairwise G
  | [], _, _ => .nil
  | _ :: _, [], _ => .nil
  | f :: a, g :: b, i => by
    unfold diffL
    split
    · exact diffL_gap a b (i + 1)
    · refine List.pairwise_cons.2 ⟨fun e he => ?_, diffL_gap a b (i + 1)⟩
      obtain ⟨j, f', g', _, _, _, rfl⟩ := diffL_mem a b (i + 1) e he
      exact ⟨mkE_ord _ _ _, mkE_ord _ _ _, .inl (by rw [mkE_file, mkE_file]; omega)⟩
theorem diffL_onF : ∀ (a b : List GFile) (i j : Nat) (f g : GFile), a[j]? = some f → b[j]? = some g → onF ((i + j : Nat) : Int) (diffL i a b) = if f.text = g.text then [] else [mkE ((i + j : Nat) : Int) f g]
  | [], _, _, _, _, _, h, _ => by simp at h
  | _ :: _, [], _, _, _, _, _, h => by simp at h
  | f0 :: a, g0 :: b, i, 0, f, g, h1, h2 => by
    obtain rfl : f0 = f := by simpa using h1
    obtain rfl : g0 = g := by simpa using h2
    have hrest : onF ((i + 0 : Nat) : Int) (diffL (i + 1) a b) = [] := List.filter_eq_nil_iff.2 fun e he hh => by
      obtain ⟨j, f', g', _, _, _, rfl⟩ := diffL_mem a b (i + 1) e he
      have := of_decide_eq_true hh
      rw [mkE_file] at this; omega
    unfold diffL
    split
    · exact hrest
    · rw [onF_pos (by rw [mkE_file]; rfl), hrest]; rfl
  | f0 :: a, g0 :: b, i, j + 1, f, g, h1, h2 => by
    have ih := diffL_onF a b (i + 1) j f g (by simpa using h1) (by simpa using h2)
    rw [show i + 1 + j = i + (j + 1) by omega] at ih
    unfold diffL
    split
    · exact ih
    · rw [onF_neg (by rw [mkE_file]; omega)]; exact ih
theorem diff_good {a b : List GFile} : Good a (diffL 0 a b) := by
  refine ⟨fun e he => ?_, diffL_gap a b 0, fun e he => ?_⟩
  · obtain ⟨j, f, g, h1, h2, h3, rfl⟩ := diffL_mem a b 0 e he
    obtain ⟨c, l, hm⟩ := mid_of f g
    have hj := (List.getElem?_eq_some_iff.1 h1).1
    rw [Nat.zero_add]
    refine ⟨by rw [mkE_file]; omega, by rw [mkE_file]; omega, ?_, mkE_ord _ _ _, ?_⟩
    · rw [hm.mkE']; show (0 : Int) ≤ ((c : Nat) : Int); omega
    · rw [mkE_file, txt_at h1, hm.mkE']; show ((f.text.length - l : Nat) : Int) ≤ _; omega
  · obtain ⟨j, f, g, h1, h2, h3, rfl⟩ := diffL_mem a b 0 e he
    obtain ⟨c, l, hm⟩ := mid_of f g
    rw [Nat.zero_add]
    unfold nidle idle
    rw [mkE_file, txt_at h1, hm.cutE, dF (hm.nidle1 _ h3)]; rfl
theorem diff_apply {a b : List GFile} (hp : a.map GFile.path = b.map GFile.path) : applyS a (diffL 0 a b) = b := by
  have hl : a.length = b.length := by have := congrArg List.length hp; simpa using this
  apply List.ext_getElem?
  intro j
  rw [applyS_at]
  by_cases hj : j < a.length
  · have h1 := List.getElem?_eq_getElem hj
    have h2 := List.getElem?_eq_getElem (show j < b.length by omega)
    have hpath : a[j].path = b[j].path := by
      have := congrArg (fun l => l[j]?) hp
      simpa [List.getElem?_map, h1, h2] using this
    rw [h1, h2]
    show some (oneF _ (j : Int) a[j]) = some b[j]
    have ho := diffL_onF a b 0 j _ _ h1 h2
    rw [Nat.zero_add] at ho
    unfold oneF
    rw [ho]
    by_cases e : a[j].text = b[j].text
    · rw [if_pos e]
      have : spl a[j].text 0 [] = b[j].text := e
      rw [this, hpath]
    · rw [if_neg e]
      obtain ⟨c, l, hm⟩ := mid_of a[j] b[j]
      rw [hm.spl1, hpath]
  · rw [List.getElem?_eq_none (by omega), List.getElem?_eq_none (by omega)]; rfl
/-! ### the law -/
def repl : List GFile → List (List UInt8) → List GFile
  | f :: fs, t :: ts => ⟨f.path, t⟩ :: repl fs ts
  | fs, _ => fs
theorem repl_len : ∀ (fs : List GFile) (ts : List (List UInt8)), (repl fs ts).length = fs.length
  | [], [] => rfl
  | [], _ :: _ => rfl
  | _ :: _, [] => rfl
  | f :: fs, t :: ts => by unfold repl; rw [List.length_cons, repl_len fs ts, List.length_cons]
theorem repl_path : ∀ (fs : List GFile) (ts : List (List UInt8)), fs.map GFile.path = (repl fs ts).map GFile.path
  | [], [] => rfl
  | [], _ :: _ => rfl
  | _ :: _, [] => rfl
  | f :: fs, t :: ts => by unfold repl; rw [List.map_cons, List.map_cons, repl_path fs ts]
theorem repl_at : ∀ (fs : List GFile) (ts : List (List UInt8)) (j : Nat), (repl fs ts)[j]? = fs[j]?.map fun f => ⟨f.path, (ts[j]?).getD f.text⟩
  | [], [], j => by simp [repl]
  | [], _ :: _, j => by simp [repl]
  | f :: fs, [], j => by simp only [repl, List.getElem?_nil, Option.getD_none]; cases (f :: fs)[j]? <;> rfl
  | f :: fs, t :: ts, 0 => rfl
  | f :: fs, t :: ts, j + 1 => by
    have := repl_at fs ts j
    simpa [repl] using this
theorem diff_count : ∀ (fs : List GFile) (ts : List (List UInt8)) (i k : Nat), (diffL i (fs.drop k) (repl (fs.drop k) (ts.drop k))).length = (diffL k (fs.drop k) ((repl fs ts).drop k)).length := by
  intro fs ts i k
  have e : repl (fs.drop k) (ts.drop k) = (repl fs ts).drop k := by
    apply List.ext_getElem?
    intro j
    rw [repl_at, List.getElem?_drop, List.getElem?_drop, List.getElem?_drop, repl_at]
  rw [e]
  have key : ∀ (a b : List GFile) (i k : Nat), (diffL i a b).length = (diffL k a b).length := by
    intro a
    induction a with
    | nil => intro b i k; rfl
    | cons f a ih =>
      intro b i k
      cases b with
      | nil => rfl
      | cons g b =>
        unfold diffL
        split
        · exact ih b _ _
        · rw [List.length_cons, List.length_cons, ih b (i + 1) (k + 1)]
  exact key _ _ _ _
theorem diffL_end : ∀ (fs : List GFile) (i : Nat), diffL i fs fs = []
  | [], _ => rfl
  | f :: fs, i => by unfold diffL; rw [if_pos rfl]; exact diffL_end fs (i + 1)
theorem ed_loop (fs : List GFile) (ts : List (List UInt8)) (h1 : fs.length ≤ 10) (h2 : ts.length ≤ 10) :
    ∃ o, loopS (emendlaw20_EditsDiff_b2 fs ts true) ((0 : Int), (0 : Int), ([] : List GFile) ++ fs) = some o ∧ (o = .inr true ∨ o = .inl (((diffL 0 fs (repl fs ts)).length : Int), repl fs ts) ∧ ∀ t ∈ ts.take fs.length, t.length ≤ 500) := by
  obtain ⟨r, e1, e2⟩ := loopS_ix (f := emendlaw20_EditsDiff_b2 fs ts true) (min fs.length ts.length) (by omega)
    (fun k x => x.2.1 = (k : Int) ∧ x.1 + ((diffL k (fs.drop k) ((repl fs ts).drop k)).length : Int) = ((diffL 0 fs (repl fs ts)).length : Int) ∧ 0 ≤ x.1 ∧ x.1 ≤ (k : Int) ∧ x.2.2.length = fs.length ∧ (∀ j : Nat, x.2.2[j]? = if j < k then (repl fs ts)[j]? else fs[j]?) ∧ ∀ t ∈ ts.take k, t.length ≤ 500)
    (fun o => (o = .inr true ∨ o = .inl (((diffL 0 fs (repl fs ts)).length : Int), repl fs ts) ∧ ∀ t ∈ ts.take fs.length, t.length ≤ 500))
    (s0 := ((0 : Int), (0 : Int), ([] : List GFile) ++ fs)) ⟨rfl, by simp, Int.le_refl _, Int.le_refl _, rfl, fun j => by rw [if_neg (Nat.not_lt_zero j)]; rfl, fun t ht => by cases ht⟩ (by
    rintro k ⟨ch, x1, b⟩ hk ⟨g1, g2, g3, g4, g5, g6, g7⟩
    dsimp only at g1 g2 g3 g4 g5 g6 g7
    subst g1
    unfold emendlaw20_EditsDiff_b2
    have hk1 : k < fs.length := by omega
    have hk2 : k < ts.length := by omega
    have hlt1 : (k : Int) < (b.length : Int) := by omega
    have hlt2 : (k : Int) < (ts.length : Int) := by omega
    have hrk : k < (repl fs ts).length := by rw [repl_len]; exact hk1
    have hbk : b[k]? = some fs[k] := by rw [g6 k, if_neg (Nat.lt_irrefl k), List.getElem?_eq_getElem hk1]
    have hrx : (repl fs ts)[k]? = some ⟨fs[k].path, ts[k]⟩ := by rw [repl_at, List.getElem?_eq_getElem hk1, List.getElem?_eq_getElem hk2]; rfl
    have hrg : (repl fs ts)[k] = ⟨fs[k].path, ts[k]⟩ := by rw [List.getElem?_eq_getElem hrk] at hrx; exact Option.some.inj hrx
    rw [diffL_drop _ _ _ hk1 hrk, hrg] at g2
    dsimp only at g2
    simp only [chkB, dT hlt1, dT hlt2, andO_true, Option.bind_some, if_true, ix_at hk2, ix_of hbk rfl, ix_at hk1]
    by_cases hlong : (500 : Int) < (ts[k].length : Int)
    · right
      rw [if_pos (dT hlong)]
      exact ⟨_, rfl, .inl rfl⟩
    · left
      rw [if_neg (by rw [dF hlong]; simp)]
      have hset : ∀ j : Nat, (b.set k ⟨fs[k].path, ts[k]⟩)[j]? = if j < k + 1 then (repl fs ts)[j]? else fs[j]? := fun j => by
        rw [List.getElem?_set]
        by_cases e : k = j
        · subst e
          rw [if_pos rfl, if_pos (by omega), if_pos (Nat.lt_succ_self k), hrx]
        · rw [if_neg e, g6 j]
          by_cases h : j < k
          · rw [if_pos h, if_pos (by omega)]
          · rw [if_neg h, if_neg (by omega)]
      have hts : ∀ t ∈ ts.take (k + 1), t.length ≤ 500 := fun t ht => by
        rw [List.take_add_one, List.getElem?_eq_getElem hk2] at ht
        rcases List.mem_append.1 ht with ht | ht
        · exact g7 t ht
        · have : t = ts[k] := by simpa using ht
          subst this; omega
      by_cases e : ts[k] = fs[k].text
      · rw [if_pos e.symm] at g2
        rw [if_neg (by rw [dT e]; simp), pk (i64_small (by omega) (by omega))]
        exact ⟨_, rfl, fl_nat k, g2, g3, by dsimp only; omega, by rw [List.length_set]; exact g5, hset, hts⟩
      · rw [if_neg (fun h => e h.symm), List.length_cons] at g2
        rw [if_pos (by rw [dF e]; rfl), pk (i64_small (by omega) (by omega)), pk (i64_small (by omega) (by omega))]
        exact ⟨_, rfl, fl_nat k, by dsimp only; omega, by dsimp only; omega, by dsimp only; omega, by rw [List.length_set]; exact g5, hset, hts⟩) (by
    rintro ⟨ch, x1, b⟩ ⟨g1, g2, g3, g4, g5, g6, g7⟩
    dsimp only at g1 g2 g3 g4 g5 g6 g7
    subst g1
    unfold emendlaw20_EditsDiff_b2
    have hcond : andO (decide (((min fs.length ts.length : Nat) : Int) < (b.length : Int))) (some (decide (((min fs.length ts.length : Nat) : Int) < (ts.length : Int)))) = some false := by
      by_cases h : ((min fs.length ts.length : Nat) : Int) < (b.length : Int)
      · rw [dT h, andO_true, dF (by omega)]
      · rw [dF h, andO_false]
    dsimp only
    rw [hcond, Option.bind_some, if_neg (by simp)]
    refine ⟨_, rfl, .inr ⟨?_, ?_⟩⟩
    · have hb : b = repl fs ts := by
        apply List.ext_getElem?
        intro j
        rw [g6 j]
        by_cases h : j < min fs.length ts.length
        · rw [if_pos h]
        · rw [if_neg h, repl_at]
          by_cases hj : j < fs.length
          · rw [List.getElem?_eq_getElem hj, List.getElem?_eq_none (l := ts) (by omega)]; rfl
          · rw [List.getElem?_eq_none (l := fs) (by omega)]; rfl
      have hz : (diffL (min fs.length ts.length) (fs.drop (min fs.length ts.length)) ((repl fs ts).drop (min fs.length ts.length))).length = 0 := by
        have e : (repl fs ts).drop (min fs.length ts.length) = fs.drop (min fs.length ts.length) := by
          apply List.ext_getElem?
          intro j
          rw [List.getElem?_drop, List.getElem?_drop, repl_at]
          by_cases hj : min fs.length ts.length + j < fs.length
          · rw [List.getElem?_eq_getElem hj, List.getElem?_eq_none (l := ts) (by omega)]; rfl
          · rw [List.getElem?_eq_none (l := fs) (by omega)]; rfl
        rw [e, diffL_end]; rfl
      rw [hz] at g2
      rw [hb]
      have : ch = ((diffL 0 fs (repl fs ts)).length : Int) := by omega
      rw [this]
    · intro t ht
      obtain ⟨j, hj, rfl⟩ := List.mem_iff_getElem.1 ht
      rw [List.length_take] at hj
      rw [List.getElem_take]
      exact g7 _ (List.mem_iff_getElem.2 ⟨j, by rw [List.length_take]; omega, by rw [List.getElem_take]⟩))
  exact ⟨r, e1, e2⟩
theorem ed_loop2 (a b : List GFile) (hn : a.length ≤ 1000000) (hb : ∀ f ∈ b, f.text.length ≤ 1000000) (ha : ∀ f ∈ a, f.text.length ≤ 1000000) (e0 : Int) : loopS (emendlaw20_EditsDiff_b4 a (diffL 0 a b, e0)) (0 : Int) = some (.inl ()) := by
  have hlen := diffL_len a b 0
  have hmem := diffL_mem a b 0
  generalize diffL 0 a b = m at hlen hmem ⊢
  obtain ⟨r, h1, h2⟩ := loopS_ix (f := emendlaw20_EditsDiff_b4 a (m, e0)) m.length (by omega) (fun k x => x = (k : Int)) (fun r => r = .inl ()) (s0 := (0 : Int)) rfl (by
    rintro k x hk rfl
    unfold emendlaw20_EditsDiff_b4
    have hlt : (k : Int) < (m.length : Int) := by omega
    obtain ⟨j, f, g, q1, q2, q3, q4⟩ := hmem _ (List.getElem_mem hk)
    rw [Nat.zero_add] at q4
    obtain ⟨c, l, hm⟩ := mid_of f g
    have hmk := hm.mkE' (j : Int)
    have b1 := hm.b1; have b2 := hm.b2
    have hfl := ha f (List.mem_of_getElem? q1)
    have hgl := hb g (List.mem_of_getElem? q2)
    left
    refine ⟨(k : Int) + 1, ?_, fl_nat k⟩
    refine (if_pos (dT hlt)).trans ?_
    dsimp only
    simp only [chkB, nltB, neqB, ix_at hk, q4, hmk, Option.bind_some]
    have hax : Sh.ix a (j : Int) = some f := by rw [ix_nat]; exact q1
    rw [hax]
    simp only [Option.bind_some, Int.toNat_natCast]
    rw [pk ⟨by omega, by omega, by omega⟩]
    obtain ⟨sc, hsc⟩ : ∃ sc, sc = (f.text.drop c).take (f.text.length - l - c) := ⟨_, rfl⟩
    obtain ⟨tc, htc⟩ : ∃ tc, tc = (g.text.drop c).take (g.text.length - l - c) := ⟨_, rfl⟩
    rw [← hsc, ← htc]
    have hscl : sc.length = f.text.length - l - c := by rw [hsc, List.length_take, List.length_drop]; omega
    have htcl : tc.length = g.text.length - l - c := by rw [htc, List.length_take, List.length_drop]; omega
    have fin : (pchk (I64 ((k : Int) + 1)) (some (.next ((k : Int) + 1)) : Option (Step Int (Sum Unit Bool)))) = some (.next ((k : Int) + 1)) := pk (i64_small (by omega) (by omega))
    rw [fin]
    by_cases h1 : (0 : Int) < (sc.length : Int)
    · by_cases h2 : (0 : Int) < (tc.length : Int)
      · rw [ltT h1, ltT h2]
        simp only [andO_true, Option.bind_some]
        have p1 : 0 < sc.length := by omega
        have p2 : 0 < tc.length := by omega
        have x1 : sc[0] = f.text[c] := by subst hsc; rw [List.getElem_take, List.getElem_drop]; rfl
        have x2 : tc[0] = g.text[c] := by subst htc; rw [List.getElem_take, List.getElem_drop]; rfl
        have p3 : sc.length - 1 < sc.length := by omega
        have p4 : tc.length - 1 < tc.length := by omega
        have x3 : sc[sc.length - 1] = f.text[f.text.length - 1 - l] := by
          have : ∀ i (hi : i < sc.length), sc[i] = f.text[c + i] := fun i hi => by subst hsc; rw [List.getElem_take, List.getElem_drop]
          rw [this]; congr 1; omega
        have x4 : tc[tc.length - 1] = g.text[g.text.length - 1 - l] := by
          have : ∀ i (hi : i < tc.length), tc[i] = g.text[c + i] := fun i hi => by subst htc; rw [List.getElem_take, List.getElem_drop]
          rw [this]; congr 1; omega
        have i1 : Sh.ix sc (0 : Int) = some sc[0] := ix_at (k := 0) p1
        have i2 : Sh.ix tc (0 : Int) = some tc[0] := ix_at (k := 0) p2
        have e3 : (sc.length : Int) - 1 = ((sc.length - 1 : Nat) : Int) := by omega
        have e4 : (tc.length : Int) - 1 = ((tc.length - 1 : Nat) : Int) := by omega
        rw [i1, i2, e3, e4]
        simp only [ix_at p3, ix_at p4, Option.bind_some]
        rw [pk (i64_small (by omega) (by omega)), pk (i64_small (by omega) (by omega))]
        rw [eqF (fun hh => by have := (u8i _ _).1 hh; rw [x1, x2] at this; exact hm.dif1 _ _ this), eqF (fun hh => by have := (u8i _ _).1 hh; rw [x3, x4] at this; exact hm.dif2 (by omega) (by omega) this)]
        rfl
      · rw [ltT h1, ltF (by omega)]; rfl
    · rw [ltF (by omega)]; rfl) (by
    rintro x rfl
    unfold emendlaw20_EditsDiff_b4
    have hlt : ¬ (m.length : Int) < (m.length : Int) := by omega
    exact ⟨_, if_neg (by rw [dF hlt]; simp), rfl⟩)
  rw [h1, h2]
theorem same12_eq (a : List Int) (ha : a.length ≤ 1000000) : emendref12_Same a a = some true := by
  unfold emendref12_Same
  rw [if_neg (by rw [dT rfl]; simp)]
  rw [loopS_sameB a a id false (by omega) rfl (fun k h h2 => by
    unfold emendref12_Same_b2
    have hlt : (k : Int) < (a.length : Int) := by omega
    simp only [chkB, dT hlt, if_true, ix_at h, Option.bind_some, id]
    rw [if_neg (by simp), pk (i64_small (by omega) (by omega)), fl_nat]) (by
    unfold emendref12_Same_b2
    have hlt : ¬ (a.length : Int) < (a.length : Int) := by omega
    exact if_neg (by rw [dF hlt]; simp))]
  rw [if_pos rfl]; rfl
theorem editsDiff_law (fs : List GFile) (ts : List (List UInt8)) : emendlaw20_EditsDiff fs ts = some true := by
  unfold emendlaw20_EditsDiff
  rw [awake_eq]
  obtain ⟨b, hb, hs⟩ := short_eq fs []
  rw [hb]
  simp only [Option.bind_some]
  cases b with
  | false => rfl
  | true =>
    have hs := hs rfl
    have h1 := hs.files
    by_cases h10 : (10 : Int) < (ts.length : Int)
    · rw [dT h10]; rfl
    rw [dF h10]
    simp only [Bool.not_true, orO_false, Option.bind_some, Bool.false_eq_true, if_false]
    rw [chkT (by simp; omega)]
    obtain ⟨o, ho, hoo⟩ := ed_loop fs ts h1 (by omega)
    rw [ho]
    rcases hoo with rfl | ⟨rfl, htb⟩
    · rfl
    show emendlaw20_EditsDiff_j1 fs true (((diffL 0 fs (repl fs ts)).length : Int), repl fs ts) = _
    unfold emendlaw20_EditsDiff_j1
    dsimp only
    have hp := repl_path fs ts
    have hrl := repl_len fs ts
    have hfb : ∀ f ∈ fs, f.text.length ≤ 1000000 := fun f hf => by have := hs.texts f hf; omega
    have hbb : ∀ f ∈ repl fs ts, f.text.length ≤ 500 := fun f hf => by
      obtain ⟨j, hj⟩ := List.mem_iff_getElem?.1 hf
      rw [repl_at] at hj
      cases hf0 : fs[j]? with
      | none => rw [hf0] at hj; cases hj
      | some f0 =>
        rw [hf0] at hj
        obtain rfl := Option.some.inj hj
        have hjl := (List.getElem?_eq_some_iff.1 hf0).1
        cases ht : ts[j]? with
        | none => exact hs.texts f0 (List.mem_of_getElem? hf0)
        | some t =>
          have hjt := (List.getElem?_eq_some_iff.1 ht).1
          refine htb t (List.mem_of_getElem? (i := j) ?_)
          rw [List.getElem?_take, if_pos hjl]; exact ht
    have hbb' : ∀ f ∈ repl fs ts, f.text.length ≤ 1000000 := fun f hf => by have := hbb f hf; omega
    have hG := diff_good (a := fs) (b := repl fs ts)
    have hDl := diffL_len fs (repl fs ts) 0
    have hsum : sumT (diffL 0 fs (repl fs ts)) ≤ (diffL 0 fs (repl fs ts)).length * 500 := sumT_le 500 _ fun e he => by
      obtain ⟨j, f, g, q1, q2, q3, rfl⟩ := diffL_mem _ _ _ _ he
      have := hbb g (List.mem_of_getElem? q2)
      show ((g.text.drop _).take _).length ≤ 500
      rw [List.length_take, List.length_drop]; omega
    have hsum2 := Nat.mul_le_mul_right 500 (Nat.le_trans hDl h1)
    rw [diff_eq hp (by omega) hfb hbb', Option.bind_some]
    rw [apply_eq fs _ (by omega) (by dsimp only; omega) (by dsimp only; omega) hs.texts', Option.bind_some]
    have ea : appliedS fs (diffL 0 fs (repl fs ts)) = (repl fs ts, 0) := by
      unfold appliedS; rw [normS_self hG, if_pos rfl, diff_apply hp]
    dsimp only
    rw [ea]
    dsimp only
    rw [same_eq _ _ (by omega)]
    simp only [decide_true, Bool.not_true, orO_false, Option.bind_some, Bool.false_eq_true, if_false]
    rw [ed_loop2 fs (repl fs ts) (by omega) hbb' hfb 0]
    show emendlaw20_EditsDiff_j3 fs true (repl fs ts) (diffL 0 fs (repl fs ts), 0) () = _
    unfold emendlaw20_EditsDiff_j3
    rw [chkT (by omega), diff_bad (fun e => by have := congrArg List.length e; simp [repl_len] at this) (by omega), Option.bind_some]
    dsimp only
    have htl := touchedS_len (diffL 0 fs (repl fs ts))
    rw [touched_eq _ (by omega)]
    simp only [decide_true, andO_true, Option.bind_some]
    rw [same12_eq _ (by omega)]; rfl
end Go.Sh
