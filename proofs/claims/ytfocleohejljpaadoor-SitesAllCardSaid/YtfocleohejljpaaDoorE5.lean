/-
  SitesSpelled, SitesAll in plain words. No program in sight.
-/
import Derived.Test.YtfocleohejljpaaDoorE4
import Derived.Test.YtfocleohejljpaaDoorT2
set_option linter.unusedVariables false
set_option linter.unusedSimpArgs false
namespace Go.Sh
open Go
theorem charsAt_cd (i : Nat) (c d : UInt8) (r : List UInt8) : charsAt i (c :: d :: r) = if c = 92 ∧ d = 10 then charsAt (i + 2) r else ⟨c, i⟩ :: charsAt (i + 1) (d :: r) := by rw [charsAt]
theorem charsAt_shift : ∀ (s : List UInt8) (i j : Nat), (charsAt i s).map GChar.b = (charsAt j s).map GChar.b
  | [], i, j => rfl
  | [c], i, j => rfl
  | c :: d :: r, i, j => by
    rw [charsAt_cd, charsAt_cd]
    by_cases h : c = 92 ∧ d = 10
    · rw [if_pos h, if_pos h]; exact charsAt_shift r _ _
    · rw [if_neg h, if_neg h, List.map_cons, List.map_cons, charsAt_shift (d :: r) (i + 1) (j + 1)]
/-- a text parted at one of its bytes -/
theorem charsAt_split : ∀ (t : List UInt8) (i j : Nat), j < (charsAt i t).length → ∃ a : Nat, atOf (charsAt i t) j = ((i + a : Nat) : Int) ∧ a < t.length ∧ charsAt i (t.take a) = (charsAt i t).take j ∧ charsAt i (t.take (a + 1)) = (charsAt i t).take (j + 1) ∧ charsAt (i + a) (t.drop a) = (charsAt i t).drop j ∧ charsAt (i + a + 1) (t.drop (a + 1)) = (charsAt i t).drop (j + 1)
  | [], i, j, h => by simp [charsAt] at h
  | [c], i, j, h => by
    have hj : j = 0 := by simp [charsAt] at h; exact h
    subst hj
    exact ⟨0, by simp [charsAt, atOf], by simp, rfl, rfl, rfl, rfl⟩
  | c :: d :: r, i, j, h => by
    rw [charsAt_cd] at h ⊢
    by_cases hp : c = 92 ∧ d = 10
    · rw [if_pos hp] at h ⊢
      obtain ⟨a, h1, h2, h3, h4, h5, h6⟩ := charsAt_split r (i + 2) j h
      have tk2 : ∀ n, charsAt i ((c :: d :: r).take (n + 2)) = charsAt (i + 2) (r.take n) := fun n => by
        rw [List.take_succ_cons, List.take_succ_cons, charsAt_cd, if_pos hp]
      refine ⟨a + 2, by rw [h1]; congr 1; omega, by simp only [List.length_cons]; omega, by rw [tk2, h3], by rw [show a + 2 + 1 = a + 1 + 2 by omega, tk2, h4], ?_, ?_⟩
      · rw [← h5, show i + (a + 2) = i + 2 + a by omega]; rfl
      · rw [← h6, show i + (a + 2) + 1 = i + 2 + a + 1 by omega]; rfl
    · rw [if_neg hp] at h ⊢
      have tk1 : ∀ n, charsAt i ((c :: d :: r).take (n + 1)) = ⟨c, i⟩ :: charsAt (i + 1) ((d :: r).take n) := fun n => by
        cases n with
        | zero => rfl
        | succ n => rw [List.take_succ_cons, List.take_succ_cons, charsAt_cd, if_neg hp]
      cases j with
      | zero =>
        refine ⟨0, by simp [atOf], by simp, rfl, by rw [tk1]; rfl, ?_, rfl⟩
        simp only [List.drop_zero, Nat.add_zero]
        rw [charsAt_cd, if_neg hp]
      | succ j =>
        rw [List.length_cons] at h
        obtain ⟨a, h1, h2, h3, h4, h5, h6⟩ := charsAt_split (d :: r) (i + 1) j (by omega)
        refine ⟨a + 1, ?_, by simp only [List.length_cons] at h2 ⊢; omega, by rw [tk1, h3, List.take_succ_cons], by rw [tk1, h4, List.take_succ_cons], ?_, ?_⟩
        · unfold atOf at h1 ⊢
          rw [List.getElem?_cons_succ, h1]; congr 1; omega
        · rw [List.drop_succ_cons, List.drop_succ_cons, ← h5, show i + (a + 1) = i + 1 + a by omega]
        · show charsAt (i + (a + 1) + 1) ((d :: r).drop (a + 1)) = (charsAt (i + 1) (d :: r)).drop (j + 1)
          rw [← h6, show i + (a + 1) + 1 = i + 1 + a + 1 by omega]
/-! ### where tokens stand -/
def Placed (t : List UInt8) (l : List GChar) (last : Nat) (p : PT) : Prop := ∃ a b : Nat, atOf l p.i = (a : Int) ∧ atOf l (p.j - 1) + 1 = (b : Int) ∧ last ≤ a ∧ a < b ∧ b ≤ t.length ∧ (charsAt 0 ((t.drop a).take (b - a))).map GChar.b = p.text
theorem toks_place (t : List UInt8) (l : List GChar) (hL : l = charsAt 0 t) (u : List UInt8) (hU : u = l.map GChar.b) : ∀ (ts : List PT) (k last : Nat) (b : Bool), charsAt last (t.drop last) = l.drop k → k ≤ l.length → last ≤ t.length → toks k b (u.drop k) = ts → (∀ p ∈ ts, Placed t l last p) ∧ ts.Pairwise (fun p q => atOf l (p.j - 1) + 1 ≤ atOf l q.i)
  | [], _, _, _, _, _, _, _ => ⟨(fun p hp => by cases hp), List.Pairwise.nil⟩
  | p :: r, k, last, b, hcut, hk, hla, htk => by
    have hul : u.length = l.length := by rw [hU, List.length_map]
    obtain ⟨k', m, q1, q2, q3, q4, q5, q6, q7, q8, q9, q10⟩ := toks_head _ _ _ _ p _ (Nat.le_refl _) htk
    rw [List.length_drop] at q4
    rw [List.drop_drop] at q5 q10
    have hatk : ∀ j, atOf (l.drop k) j = atOf l (k + j) := fun j => by unfold atOf; rw [List.getElem?_drop]
    obtain ⟨a, s1, s2, s3, s4, s5, s6⟩ := charsAt_split (t.drop last) last k' (by rw [hcut, List.length_drop]; omega)
    rw [hcut] at s1 s3 s5
    rw [hatk] at s1
    rw [List.length_drop] at s2
    rw [List.drop_drop, List.drop_drop] at s5
    have hatk2 : ∀ j, atOf (l.drop (k + k')) j = atOf l (k + k' + j) := fun j => by unfold atOf; rw [List.getElem?_drop]
    obtain ⟨a2, v1, v2, v3, v4, v5, v6⟩ := charsAt_split (t.drop (last + a)) (last + a) (m - 1) (by rw [s5, List.length_drop]; omega)
    rw [s5] at v1 v4 v6
    rw [hatk2] at v1
    rw [List.length_drop] at v2
    rw [show m - 1 + 1 = m by omega, List.drop_drop, List.drop_drop] at v6
    rw [show m - 1 + 1 = m by omega] at v4
    have hto : atOf l (p.j - 1) + 1 = ((last + a + a2 + 1 : Nat) : Int) := by
      rw [q2, show k + k' + m - 1 = k + k' + (m - 1) by omega, v1]; rfl
    have hfrom : atOf l p.i = ((last + a : Nat) : Int) := by rw [q1, s1]
    have hown : (charsAt 0 ((t.drop (last + a)).take (a2 + 1))).map GChar.b = (u.drop (k + k')).take m := by
      rw [charsAt_shift _ 0 (last + a), v4, List.map_take, List.map_drop, ← hU]
    obtain ⟨i1, i2⟩ := toks_place t l hL u hU r (k + k' + m) (last + a + a2 + 1) false (by rw [show last + a + a2 + 1 = last + a + (a2 + 1) by omega]; exact v6) (by omega) (by omega) (by rw [q10, q2, ← Nat.add_assoc])
    refine ⟨fun x hx => ?_, List.pairwise_cons.2 ⟨fun x hx => ?_, i2⟩⟩
    · rcases List.mem_cons.1 hx with rfl | hx
      · exact ⟨last + a, last + a + a2 + 1, hfrom, hto, by omega, by omega, by omega, by rw [show last + a + a2 + 1 - (last + a) = a2 + 1 by omega, hown, q5]⟩
      · obtain ⟨x1, x2, y1, y2, y3, y4⟩ := i1 x hx
        exact ⟨x1, x2, y1, y2, by omega, y4⟩
    · obtain ⟨x1, x2, y1, y2, y3, y4⟩ := i1 x hx
      rw [hto, y1]; omega
theorem tokens_place (file : Int) (t : List UInt8) : (∀ x ∈ tokens file t, x.file_ = file ∧ ∃ a b : Nat, x.from_ = (a : Int) ∧ x.to = (b : Int) ∧ a < b ∧ b ≤ t.length ∧ (charsAt 0 ((t.drop a).take (b - a))).map GChar.b = x.text) ∧ (tokens file t).Pairwise (fun x y => x.to ≤ y.from_) := by
  obtain ⟨h1, h2⟩ := toks_place t _ rfl _ rfl _ 0 0 false rfl (Nat.zero_le _) (Nat.zero_le _) rfl
  unfold tokens
  constructor
  · intro x hx
    obtain ⟨p, hp, rfl⟩ := List.mem_map.1 hx
    obtain ⟨a, b, y1, y2, y3, y4, y5, y6⟩ := h1 p hp
    exact ⟨rfl, a, b, y1, y2, y4, y5, y6⟩
  · rw [List.pairwise_map]; exact h2
/-! ### the words are the Idents -/
def idents (l : List GTok) : List GTok := l.filter (fun t => decide (t.kind = 1))
theorem wordsL_toks (x : GLine) (n : Int) (all : List GTok) : ∀ (r : List GTok) (k : Nat), (wordsL x n all k r).map GSites_word.tok = idents r
  | [], _ => rfl
  | t :: r, k => by
    rw [wordsL, idents, List.filter_cons]
    by_cases h : t.kind = 1
    · rw [if_pos h, if_pos (decide_eq_true h), List.map_cons, wordsL_toks x n all r (k + 1)]; rfl
    · rw [if_neg h, if_neg (by simpa using h), wordsL_toks x n all r (k + 1)]; rfl
theorem linesW_toks (l : List GTok) : ∀ (xs : List GLine) (n : Nat), (linesW l n xs).map GSites_word.tok = xs.flatMap fun x => idents (allOf l x)
  | [], _ => rfl
  | x :: r, n => by rw [linesW, List.map_append, wordsL_toks, linesW_toks l r (n + 1), List.flatMap_cons]
theorem pieces_idents (l : List GTok) : ∀ (u : List GTok) (f i : Nat), f ≤ i → l.drop i = u → (piecesF f i u).flatMap (fun p => idents (segOf l p)) = idents (l.drop f)
  | [], f, i, h, hu => by
    have hl := List.drop_eq_nil_iff.1 hu
    rw [piecesF]
    by_cases hlt : f < i
    · rw [if_pos hlt, List.flatMap_cons, List.flatMap_nil, List.append_nil]
      unfold segOf
      simp only [Int.toNat_natCast]
      rw [List.take_of_length_le (by rw [List.length_drop]; omega)]
    · obtain rfl : f = i := by omega
      rw [if_neg hlt, hu]; rfl
  | t :: r, f, i, h, hu => by
    have hr : l.drop (i + 1) = r := by rw [← List.drop_drop, hu]; rfl
    by_cases h7 : t.kind = 7
    · rw [piecesF, if_pos h7, List.flatMap_cons, pieces_idents l r (i + 1) (i + 1) (Nat.le_refl _) hr, hr]
      have e : l.drop f = segOf l ((f : Int), (i : Int)) ++ t :: r := by
        unfold segOf
        simp only [Int.toNat_natCast]
        rw [← hu, show l.drop i = (l.drop f).drop (i - f) by rw [List.drop_drop, show f + (i - f) = i by omega], List.take_append_drop]
      rw [e]
      unfold idents
      rw [List.filter_append, List.filter_cons, if_neg (by rw [h7]; decide)]
    · rw [piecesF, if_neg h7]
      exact pieces_idents l r f (i + 1) (by omega) hr
theorem words_toks (l : List GTok) : (linesW l 0 (linesOf l)).map GSites_word.tok = idents l := by
  rw [linesW_toks]
  have h := pieces_idents l l 0 0 (Nat.le_refl _) rfl
  rw [List.drop_zero] at h
  rw [← h]
  unfold linesOf
  rw [List.flatMap_map]
  have hb := (pieces_bound l.length l 0 0 (by omega) (Nat.le_refl _)).2
  generalize piecesF 0 0 l = ps at hb ⊢
  clear h
  induction ps with
  | nil => rfl
  | cons p ps ih =>
    obtain ⟨h1, h2, h3⟩ := hb p (by simp)
    rw [List.flatMap_cons, List.flatMap_cons, allOf_piece l p h1 h2 h3, ih (fun q hq => hb q (by simp [hq]))]
theorem wordsL_number (x : GLine) (n : Int) (all : List GTok) : ∀ (r : List GTok) (k : Nat), ∀ w ∈ wordsL x n all k r, w.number = n
  | [], _ => fun w hw => by cases hw
  | t :: r, k => by
    intro w hw
    rw [wordsL] at hw
    by_cases h : t.kind = 1
    · rw [if_pos h] at hw
      rcases List.mem_cons.1 hw with rfl | hw
      · rfl
      · exact wordsL_number x n all r (k + 1) w hw
    · rw [if_neg h] at hw
      exact wordsL_number x n all r (k + 1) w hw
theorem linesW_number (l : List GTok) : ∀ (xs : List GLine) (n : Nat), (∀ w ∈ linesW l n xs, (n : Int) ≤ w.number) ∧ (linesW l n xs).Pairwise (fun w v => w.number ≤ v.number)
  | [], _ => ⟨(fun w hw => by cases hw), List.Pairwise.nil⟩
  | x :: r, n => by
    obtain ⟨h1, h2⟩ := linesW_number l r (n + 1)
    have h3 := wordsL_number x n (allOf l x) (allOf l x) 0
    rw [linesW]
    refine ⟨fun w hw => ?_, List.pairwise_append.2 ⟨?_, h2, fun w hw v hv => ?_⟩⟩
    · rcases List.mem_append.1 hw with hw | hw
      · rw [h3 w hw]; omega
      · have := h1 w hw; omega
    · generalize wordsL x (n : Int) (allOf l x) 0 (allOf l x) = ws at h3
      induction ws with
      | nil => exact List.Pairwise.nil
      | cons w ws ih => exact List.pairwise_cons.2 ⟨fun v hv => by rw [h3 w (by simp), h3 v (by simp [hv])]; omega, ih (fun v hv => h3 v (by simp [hv]))⟩
    · have := h3 w hw; have := h1 v hv; omega
def Ahead (w v : GSites_word) : Prop := w.tok.file_ < v.tok.file_ ∨ (w.tok.file_ = v.tok.file_ ∧ w.tok.to ≤ v.tok.from_ ∧ w.number ≤ v.number)
theorem linesW_mem (i : Int) (t : List UInt8) (w : GSites_word) (hw : w ∈ linesW (tokens i t) 0 (linesOf (tokens i t))) : w.tok ∈ tokens i t ∧ w.tok.kind = 1 := by
  have h : w.tok ∈ idents (tokens i t) := by rw [← words_toks]; exact List.mem_map_of_mem hw
  unfold idents at h
  rw [List.mem_filter] at h
  exact ⟨h.1, by simpa using h.2⟩
theorem linesW_ahead (i : Int) (t : List UInt8) : (linesW (tokens i t) 0 (linesOf (tokens i t))).Pairwise Ahead := by
  obtain ⟨h1, h2⟩ := tokens_place i t
  have h3 : (idents (tokens i t)).Pairwise (fun x y => x.to ≤ y.from_) := h2.sublist List.filter_sublist
  rw [← words_toks, List.pairwise_map] at h3
  have h4 := (linesW_number (tokens i t) (linesOf (tokens i t)) 0).2
  have h5 := List.Pairwise.and h3 h4
  refine List.Pairwise.imp_of_mem ?_ h5
  intro w v hw hv hh
  have a := (h1 _ (linesW_mem i t w hw).1).1
  have b := (h1 _ (linesW_mem i t v hv).1).1
  exact .inr ⟨by rw [a, b], hh⟩
theorem wordsF_at : ∀ (fs : List GFile) (i : Nat), ∀ w ∈ wordsF i fs, ∃ (k : Nat) (f : GFile), fs[k]? = some f ∧ w.tok ∈ tokens ((i + k : Nat) : Int) f.text ∧ w.tok.kind = 1
  | [], _ => fun w hw => by cases hw
  | f :: r, i => by
    intro w hw
    rw [wordsF] at hw
    rcases List.mem_append.1 hw with hw | hw
    · exact ⟨0, f, rfl, linesW_mem _ _ w hw⟩
    · obtain ⟨k, g, h1, h2⟩ := wordsF_at r (i + 1) w hw
      exact ⟨k + 1, g, h1, by rw [show i + (k + 1) = i + 1 + k by omega]; exact h2⟩
theorem wordsF_ahead : ∀ (fs : List GFile) (i : Nat), (wordsF i fs).Pairwise Ahead
  | [], _ => List.Pairwise.nil
  | f :: r, i => by
    rw [wordsF]
    refine List.pairwise_append.2 ⟨linesW_ahead _ _, wordsF_ahead r (i + 1), fun w hw v hv => ?_⟩
    have a := ((tokens_place (i : Int) f.text).1 _ (linesW_mem _ _ w hw).1).1
    obtain ⟨k, g, h1, h2, h3⟩ := wordsF_at r (i + 1) v hv
    have b := ((tokens_place _ g.text).1 _ h2).1
    exact .inl (by rw [a, b]; omega)
/-! ### sites -/
def AheadS (s r : GSite) : Prop := s.file_ < r.file_ ∨ (s.file_ = r.file_ ∧ s.to ≤ r.from_ ∧ s.line_ ≤ r.line_)
theorem siteF_some {name : List UInt8} {w : GSites_word} {s : GSite} (h : siteF name w = some s) : w.tok.text = name ∧ s.file_ = w.tok.file_ ∧ s.from_ = w.tok.from_ ∧ s.to = w.tok.to ∧ s.line_ = w.number := by
  unfold siteF at h
  split at h
  · rename_i hn
    injection h with h
    subst h
    exact ⟨hn, rfl, rfl, rfl, rfl⟩
  · cases h
theorem findF_ahead (name : List UInt8) (fs : List GFile) : (findF name fs).Pairwise AheadS := by
  unfold findF
  refine List.Pairwise.filterMap (R := Ahead) (S := AheadS) (siteF name) ?_ (wordsF_ahead fs 0)
  intro w v hwv s hs r hr
  obtain ⟨_, a1, a2, a3, a4⟩ := siteF_some hs
  obtain ⟨_, b1, b2, b3, b4⟩ := siteF_some hr
  unfold AheadS
  rw [a1, a3, a4, b1, b2, b4]
  exact hwv
theorem findF_at (name : List UInt8) (fs : List GFile) : ∀ s ∈ findF name fs, ∃ (k a b : Nat) (f : GFile), fs[k]? = some f ∧ s.file_ = (k : Int) ∧ s.from_ = (a : Int) ∧ s.to = (b : Int) ∧ a ≤ b ∧ b ≤ f.text.length ∧ (charsAt 0 ((f.text.drop a).take (b - a))).map GChar.b = name := by
  intro s hs
  unfold findF at hs
  obtain ⟨w, hw, he⟩ := List.mem_filterMap.1 hs
  obtain ⟨a0, a1, a2, a3, a4⟩ := siteF_some he
  obtain ⟨k, f, h1, h2, h3⟩ := wordsF_at fs 0 w hw
  obtain ⟨b1, a, b, b2, b3, b4, b5, b6⟩ := (tokens_place _ f.text).1 _ h2
  exact ⟨k, a, b, f, h1, by rw [a1, b1]; omega, by rw [a2, b2], by rw [a3, b3], by omega, b5, by rw [b6, a0]⟩
/-! ### the names spelled -/
def namesF : Nat → List GFile → List (List UInt8) → List (List UInt8)
  | _, [], ks => ks
  | i, f :: r, ks => namesF (i + 1) r (addS ks (tokens (i : Int) f.text))
theorem putS_mem (s : List UInt8) (ks : List (List UInt8)) (x : List UInt8) : x ∈ putS s ks ↔ x ∈ ks ∨ x = s := by
  unfold putS; split
  · rename_i h
    exact ⟨.inl, fun h2 => h2.elim id (fun e => e ▸ h)⟩
  · simp
theorem putS_nodup (s : List UInt8) (ks : List (List UInt8)) (h : ks.Nodup) : (putS s ks).Nodup := by
  unfold putS; split
  · exact h
  · rename_i hn
    exact List.nodup_append.2 ⟨h, by simp, fun a ha b hb e => by
      rw [List.mem_singleton] at hb
      subst hb; subst e; exact hn ha⟩
theorem putS_len (s : List UInt8) (ks : List (List UInt8)) : (putS s ks).length ≤ ks.length + 1 := by
  unfold putS; split <;> simp
theorem addS_mem (x : List UInt8) : ∀ (l : List GTok) (ks : List (List UInt8)), x ∈ addS ks l ↔ x ∈ ks ∨ ∃ t ∈ idents l, t.text = x
  | [], ks => by simp [addS, idents]
  | t :: r, ks => by
    rw [addS, addS_mem x r]
    unfold idents
    rw [List.filter_cons]
    by_cases h : t.kind = 1
    · rw [if_pos h, if_pos (decide_eq_true h), putS_mem]
      simp only [List.mem_cons, exists_eq_or_imp]
      constructor
      · rintro ((h1 | h1) | h1)
        · exact .inl h1
        · exact .inr (.inl h1.symm)
        · exact .inr (.inr h1)
      · rintro (h1 | h1 | h1)
        · exact .inl (.inl h1)
        · exact .inl (.inr h1.symm)
        · exact .inr h1
    · rw [if_neg h, if_neg (by simpa using h)]
theorem addS_nodup : ∀ (l : List GTok) (ks : List (List UInt8)), ks.Nodup → (addS ks l).Nodup
  | [], ks, h => h
  | t :: r, ks, h => by
    rw [addS]
    refine addS_nodup r _ ?_
    split
    · exact putS_nodup _ _ h
    · exact h
theorem addS_len : ∀ (l : List GTok) (ks : List (List UInt8)), (addS ks l).length ≤ ks.length + l.length
  | [], ks => Nat.le_refl _
  | t :: r, ks => by
    rw [addS, List.length_cons]
    refine Nat.le_trans (addS_len r _) ?_
    split
    · have := putS_len t.text ks; omega
    · omega
theorem namesF_mem (x : List UInt8) : ∀ (fs : List GFile) (i : Nat) (ks : List (List UInt8)), x ∈ namesF i fs ks ↔ x ∈ ks ∨ ∃ w ∈ wordsF i fs, w.tok.text = x
  | [], i, ks => by simp [namesF, wordsF]
  | f :: r, i, ks => by
    rw [namesF, namesF_mem x r, addS_mem, wordsF, ← words_toks]
    constructor
    · rintro ((h | ⟨t, ht, e⟩) | ⟨w, hw, e⟩)
      · exact .inl h
      · obtain ⟨w, hw, rfl⟩ := List.mem_map.1 ht
        exact .inr ⟨w, List.mem_append_left _ hw, e⟩
      · exact .inr ⟨w, List.mem_append_right _ hw, e⟩
    · rintro (h | ⟨w, hw, e⟩)
      · exact .inl (.inl h)
      · rcases List.mem_append.1 hw with hw | hw
        · exact .inl (.inr ⟨w.tok, List.mem_map_of_mem hw, e⟩)
        · exact .inr ⟨w, hw, e⟩
theorem namesF_nodup : ∀ (fs : List GFile) (i : Nat) (ks : List (List UInt8)), ks.Nodup → (namesF i fs ks).Nodup
  | [], i, ks, h => h
  | f :: r, i, ks, h => namesF_nodup r (i + 1) _ (addS_nodup _ _ h)
theorem namesF_len : ∀ (fs : List GFile) (i : Nat) (ks : List (List UInt8)), (∀ f ∈ fs, f.text.length ≤ 600) → (namesF i fs ks).length ≤ ks.length + fs.length * 600
  | [], i, ks, h => by simp [namesF]
  | f :: r, i, ks, h => by
    have h1 := namesF_len r (i + 1) (addS ks (tokens (i : Int) f.text)) (fun g hg => h g (by simp [hg]))
    have h2 := addS_len (tokens (i : Int) f.text) ks
    have h3 := tokens_len (i : Int) f.text
    have h4 := h f (by simp)
    rw [namesF, List.length_cons]; omega
theorem spelledO_eq : ∀ (fs : List GFile) (i : Nat) (ks : List (List UInt8)), (∀ f ∈ fs, f.text.length ≤ 600) → spelledO i fs ks = some (namesF i fs ks)
  | [], i, ks, h => rfl
  | f :: r, i, ks, h => by
    have h3 := tokens_len (i : Int) f.text
    have h4 := h f (by simp)
    rw [spelledO, tokens_eq _ _ (by omega), Option.bind_some, chkT (by omega), spelledO_eq r (i + 1) _ (fun g hg => h g (by simp [hg]))]; rfl
def spelledF (fs : List GFile) : List (List UInt8) := sortS (namesF 0 fs [])
theorem spelled_eq (fs : List GFile) (h6 : fs.length ≤ 6) (h : ∀ f ∈ fs, f.text.length ≤ 600) : world_Spelled fs = some (spelledF fs) := by
  have h1 := namesF_len fs 0 [] h
  rw [List.length_nil] at h1
  unfold world_Spelled
  rw [chkT (by omega), spelledO_eq fs 0 [] h, Option.bind_some, chkT ⟨namesF_nodup fs 0 [] List.nodup_nil, by omega⟩]; rfl
theorem spelledF_mem (fs : List GFile) (x : List UInt8) : x ∈ spelledF fs ↔ ∃ w ∈ wordsF 0 fs, w.tok.text = x := by
  unfold spelledF sortS
  rw [List.mem_mergeSort, namesF_mem]; simp
theorem spelledF_nodup (fs : List GFile) : (spelledF fs).Nodup := by
  unfold spelledF sortS
  exact (List.mergeSort_perm _ _).nodup_iff.2 (namesF_nodup fs 0 [] List.nodup_nil)
theorem spelledF_len (fs : List GFile) (h6 : fs.length ≤ 6) (h : ∀ f ∈ fs, f.text.length ≤ 600) : (spelledF fs).length ≤ 3600 := by
  have h1 := namesF_len fs 0 [] h
  unfold spelledF sortS
  rw [List.length_mergeSort]
  rw [List.length_nil] at h1; omega
theorem findF_some (fs : List GFile) (name : List UInt8) : 0 < (findF name fs).length ↔ ∃ w ∈ wordsF 0 fs, w.tok.text = name := by
  rw [List.length_pos_iff_exists_mem]
  unfold findF
  constructor
  · rintro ⟨s, hs⟩
    obtain ⟨w, hw, he⟩ := List.mem_filterMap.1 hs
    exact ⟨w, hw, (siteF_some he).1⟩
  · rintro ⟨w, hw, he⟩
    exact ⟨⟨w.tok.file_, w.tok.from_, w.tok.to, w.number, partOf w.line_ (w.at_ - ahead w.line_)⟩, List.mem_filterMap.2 ⟨w, hw, by unfold siteF; rw [if_pos he]⟩⟩
theorem has_eq11 (l : List (List UInt8)) (x : List UInt8) (h : l.length ≤ 2000000) : emendref11_Has l x = some (decide (x ∈ l)) := by
  unfold emendref11_Has
  rw [loopS_find l (fun y => decide (y = x)) true h (by
    intro k hk
    unfold emendref11_Has_b2
    rw [if_pos (decide_eq_true (by omega)), ix_at hk, Option.bind_some]
    by_cases e : l[k] = x
    · rw [if_pos (decide_eq_true e), if_pos (decide_eq_true e)]
    · rw [if_neg (by simpa using e), if_neg (by simpa using e), chkT (by omega)]; rfl) (by
    unfold emendref11_Has_b2
    exact if_neg (by simp))]
  by_cases hx : x ∈ l
  · rw [if_pos (List.any_eq_true.2 ⟨x, hx, decide_eq_true rfl⟩), decide_eq_true hx]; rfl
  · rw [if_neg (by
      rw [List.any_eq_true]
      rintro ⟨y, hy, e⟩
      exact hx (of_decide_eq_true e ▸ hy)), decide_eq_false hx]; rfl
theorem spelling_eq (fs : List GFile) (s : GSite) (k a b : Nat) (f : GFile) (h1 : fs[k]? = some f) (h2 : s.file_ = (k : Int)) (h3 : s.from_ = (a : Int)) (h4 : s.to = (b : Int)) (h5 : a ≤ b) (h6 : b ≤ f.text.length) : sites_Spelling fs s = some ((f.text.drop a).take (b - a), 0) := by
  have hk := (List.getElem?_eq_some_iff.1 h1).1
  unfold sites_Spelling
  rw [ix_of h1 h2, h2, h3, h4]
  simp only [chkB, andB, orB, condAnd, condOr, iteB, neqB, nltB, nleB, m8_9, m8_10, m8_11, m8_12, m8_13, m8_32, m8_34, m8_35, m8_39, m8_40, m8_41, m8_42, m8_43, m8_44, m8_45, m8_46, m8_47, m8_48, m8_60, m8_62, m8_64, m8_65, m8_67, m8_69, m8_80, m8_90, m8_92, m8_95, m8_97, m8_101, m8_112, m8_122, m8, orO_some, andO_some, Option.bind_some, getD_drop]
  rw [ltF (by omega), leF (by omega), ltF (by omega), ltF (by omega), ltF (by omega)]
  simp only [Bool.or_self, cond_false, Option.bind_some]
  rw [pk (by omega), Int.toNat_natCast, Int.toNat_natCast]
theorem sitesSpelled_law (fs : List GFile) (name : List UInt8) : emendlaw19_SitesSpelled fs name = some true := by
  unfold emendlaw19_SitesSpelled
  rw [awake19, Option.bind_some, short_eq fs 600 (by omega), Option.bind_some]
  by_cases hs : (decide (fs.length ≤ 6) && fs.all (fun f => decide ((f.text.length : Int) ≤ 600) && decide (f.path.length ≤ 100))) = true
  rotate_left
  · rw [Bool.eq_false_iff.2 hs]; rfl
  obtain ⟨h6, ht⟩ := short_true hs
  have h600 : ∀ f ∈ fs, f.text.length ≤ 600 := fun f hf => by have := ht f hf; omega
  have h2m : ∀ f ∈ fs, f.text.length ≤ 2000000 := fun f hf => by have := ht f hf; omega
  obtain ⟨b1, b2⟩ := findF_len name fs h6 h600
  rw [hs, show (!true) = false from rfl, orO_some, Option.bind_some, Bool.false_or]
  by_cases h0 : fs.length = 0
  · rw [if_pos (decide_eq_true (by omega))]
  rw [if_neg (by simpa using h0), find_eq fs name (by omega) h2m b1, Option.bind_some]
  have hat := findF_at name fs
  have hah := findF_ahead name fs
  have hsome := findF_some fs name
  generalize findF name fs = r3 at *
  obtain ⟨r, g1, rfl⟩ := loopS_ix (f := emendlaw19_SitesSpelled_b2 fs name r3) r3.length (by omega) (fun k x => x = (k : Int)) (fun r => r = .inl ()) (s0 := (0 : Int)) rfl (by
    rintro n x hn rfl
    left
    refine ⟨((n + 1 : Nat) : Int), ?_, rfl⟩
    obtain ⟨k, a, b, f, c1, c2, c3, c4, c5, c6, c7⟩ := hat _ (List.getElem_mem hn)
    have hf := h600 f (List.mem_of_getElem? c1)
    have hcl := charsAt_len ((f.text.drop a).take (b - a)) 0
    have hlen : ((f.text.drop a).take (b - a)).length ≤ 600 := by rw [List.length_take, List.length_drop]; omega
    have hsp := spelling_eq fs _ k a b f c1 c2 c3 c4 c5 c6
    generalize (f.text.drop a).take (b - a) = seg at hcl hlen c7 hsp
    unfold emendlaw19_SitesSpelled_b2
    rw [if_pos (decide_eq_true (by omega)), ix_at hn, Option.bind_some, hsp, Option.bind_some, refJoin_eq seg (by omega), Option.bind_some, refText_eq (charsAt 0 seg) (by omega), Option.bind_some, c7]
    rw [show (orO (!decide ((0 : Int) = 0)) (some (!decide (name = name)))) = some false by simp [orO], Option.bind_some, if_neg (by simp)]
    cases n with
    | zero => rfl
    | succ n =>
      have hp := List.pairwise_iff_getElem.1 hah n (n + 1) (by omega) hn (by omega)
      have e1 : ((n + 1 : Nat) : Int) - 1 = (n : Int) := by omega
      rw [Option.bind_some, e1, ix_at (show n < r3.length by omega)]
      simp only [Option.bind_some]
      rw [chkT (show I64 (n : Int) by omega)]
      unfold AheadS at hp
      generalize r3[n + 1] = x at *
      generalize r3[n] = y at *
      rw [show (andO (decide ((0 : Int) < ((n + 1 : Nat) : Int)))) = fun k => k from by funext k; rw [decide_eq_true (by omega)]; rfl]
      simp only [chkB, andB, orB, condAnd, condOr, iteB, neqB, nltB, nleB, m8_9, m8_10, m8_11, m8_12, m8_13, m8_32, m8_34, m8_35, m8_39, m8_40, m8_41, m8_42, m8_43, m8_44, m8_45, m8_46, m8_47, m8_48, m8_60, m8_62, m8_64, m8_65, m8_67, m8_69, m8_80, m8_90, m8_92, m8_95, m8_97, m8_101, m8_112, m8_122, m8, orO_some, andO_some, Option.bind_some, getD_drop]
      have hI : I64 (n : Int) := by omega
      have hI2 : I64 (((n + 1 : Nat) : Int) + 1) := by omega
      rcases hp with hp | ⟨p1, p2, p3⟩
      · rw [ltF (show y.file_ ≤ x.file_ by omega), eqF (show x.file_ ≠ y.file_ by omega)]
        simp only [pk hI, pk hI2, cond_false, Option.bind_some]; rfl
      · rw [ltF (show y.file_ ≤ x.file_ by omega), eqT (show x.file_ = y.file_ by omega), ltF (show y.to ≤ x.from_ by omega), ltF (show y.line_ ≤ x.line_ by omega)]
        simp only [pk hI, pk hI2, cond_false, cond_true, Option.bind_some]; rfl) (by
    rintro x rfl
    refine ⟨.inl (), ?_, rfl⟩
    unfold emendlaw19_SitesSpelled_b2
    exact if_neg (by simp))
  rw [g1, Option.bind_some]
  show emendlaw19_SitesSpelled_j1 fs name true r3 () = some true
  unfold emendlaw19_SitesSpelled_j1
  have hsl := spelledF_len fs h6 h600
  rw [spelled_eq fs h6 h600, Option.bind_some, has_eq11 _ _ (by omega), Option.bind_some]
  have e : decide (name ∈ spelledF fs) = decide ((0 : Int) < (r3.length : Int)) := by
    rw [decide_eq_decide, spelledF_mem, ← hsome]; omega
  rw [e, beq_self_eq_true]; rfl
/-! ### each Ident is a site of its name -/
theorem one_sum {β : Type} [DecidableEq β] (x : β) : ∀ L : List β, L.Nodup → (L.map fun n => if x = n then 1 else 0).sum = if x ∈ L then 1 else 0
  | [], _ => rfl
  | y :: L, h => by
    obtain ⟨h1, h2⟩ := List.nodup_cons.1 h
    rw [List.map_cons, List.sum_cons, one_sum x L h2]
    by_cases e : x = y
    · subst e; rw [if_pos rfl, if_neg h1, if_pos (by simp)]
    · rw [if_neg e, Nat.zero_add]
      by_cases hx : x ∈ L
      · rw [if_pos hx, if_pos (List.mem_cons_of_mem _ hx)]
      · rw [if_neg hx, if_neg (by simp [e, hx])]
theorem sum_add {β : Type} (f g : β → Nat) : ∀ L : List β, (L.map fun n => f n + g n).sum = (L.map f).sum + (L.map g).sum
  | [] => rfl
  | y :: L => by rw [List.map_cons, List.map_cons, List.map_cons, List.sum_cons, List.sum_cons, List.sum_cons, sum_add f g L]; omega
theorem sum_zero {β : Type} : ∀ L : List β, (L.map fun _ => 0).sum = 0
  | [] => rfl
  | y :: L => by rw [List.map_cons, List.sum_cons, sum_zero L]
theorem count_sum {α β : Type} [DecidableEq β] (g : α → β) (L : List β) (hL : L.Nodup) : ∀ ws : List α, (∀ w ∈ ws, g w ∈ L) → (L.map fun n => (ws.filter fun w => decide (g w = n)).length).sum = ws.length
  | [], _ => sum_zero L
  | w :: ws, h => by
    have e : (fun n => ((w :: ws).filter fun w => decide (g w = n)).length) = fun n => (if g w = n then 1 else 0) + (ws.filter fun w => decide (g w = n)).length := by
      funext n
      rw [List.filter_cons]
      by_cases hn : g w = n
      · rw [if_pos (decide_eq_true hn), if_pos hn, List.length_cons]; omega
      · rw [if_neg (by simpa using hn), if_neg hn]; omega
    rw [e, sum_add, one_sum _ _ hL, if_pos (h w (by simp)), count_sum g L hL ws (fun v hv => h v (by simp [hv])), List.length_cons]; omega
theorem findF_count (name : List UInt8) (fs : List GFile) : (findF name fs).length = ((wordsF 0 fs).filter fun w => decide (w.tok.text = name)).length := by
  unfold findF
  generalize wordsF 0 fs = ws
  induction ws with
  | nil => rfl
  | cons w ws ih =>
    rw [List.filter_cons]
    by_cases h : w.tok.text = name
    · rw [if_pos (decide_eq_true h), List.length_cons, ← ih, List.filterMap_cons_some (b := ⟨w.tok.file_, w.tok.from_, w.tok.to, w.number, partOf w.line_ (w.at_ - ahead w.line_)⟩) (by unfold siteF; rw [if_pos h]), List.length_cons]
    · rw [if_neg (by simpa using h), ← ih, List.filterMap_cons_none (by unfold siteF; rw [if_neg h])]
theorem sum_take (f : List UInt8 → Nat) (L : List (List UInt8)) (k : Nat) (h : k < L.length) : ((L.take (k + 1)).map f).sum = ((L.take k).map f).sum + f L[k] := by
  rw [List.take_add_one, List.getElem?_eq_getElem h, List.map_append, List.sum_append]; simp
theorem sum_le (f : List UInt8 → Nat) (L : List (List UInt8)) (k : Nat) : ((L.take k).map f).sum ≤ (L.map f).sum := by
  have h : (L.map f).sum = ((L.take k).map f).sum + ((L.drop k).map f).sum := by
    rw [← List.sum_append, ← List.map_append, List.take_append_drop]
  omega
theorem sitesAll_law (t : List UInt8) : emendlaw19_SitesAll t = some true := by
  unfold emendlaw19_SitesAll
  rw [awake19, Option.bind_some]
  by_cases hl : 600 < t.length
  · rw [if_pos (decide_eq_true (by omega))]
  obtain ⟨fs, hfs⟩ : ∃ fs : List GFile, fs = [⟨[109], t⟩] := ⟨_, rfl⟩
  have h6 : fs.length ≤ 6 := by rw [hfs]; simp
  have h600 : ∀ f ∈ fs, f.text.length ≤ 600 := fun f hf => by rw [hfs, List.mem_singleton] at hf; subst hf; simp only; omega
  have h2m : ∀ f ∈ fs, f.text.length ≤ 2000000 := fun f hf => by have := h600 f hf; omega
  rw [if_neg (by rw [decide_eq_false (by omega)]; simp), ← hfs, spelled_eq fs h6 h600, Option.bind_some]
  have hsl := spelledF_len fs h6 h600
  have hsum := count_sum (fun w : GSites_word => w.tok.text) (spelledF fs) (spelledF_nodup fs) (wordsF 0 fs) (fun w hw => (spelledF_mem fs _).2 ⟨w, hw, rfl⟩)
  have hw := (findF_len [] fs h6 h600).1
  have hfc : (fun n => ((wordsF 0 fs).filter fun w => decide (w.tok.text = n)).length) = fun n => (findF n fs).length := by
    funext n; rw [findF_count]
  rw [hfc] at hsum
  have hid : (wordsF 0 fs).length = (idents (tokens 0 t)).length := by
    rw [hfs, wordsF, wordsF, List.append_nil]
    have := congrArg List.length (words_toks (tokens ((0 : Nat) : Int) t))
    rw [List.length_map] at this
    exact this
  have hfind : ∀ n, sites_Find fs n = some (findF n fs) := fun n => find_eq fs n (by omega) h2m hw
  generalize spelledF fs = L at *
  obtain ⟨m, hm⟩ : ∃ m, m = (wordsF 0 fs).length := ⟨_, rfl⟩
  rw [← hm] at hsum hw hid
  obtain ⟨r, g1, rfl⟩ := loopS_ix (f := emendlaw19_SitesAll_b2 t L) L.length (by omega) (fun k x => x = (((((L.take k).map fun n => (findF n fs).length).sum : Nat) : Int), (k : Int))) (fun r => r = (m : Int)) (s0 := ((0 : Int), (0 : Int))) rfl (by
    rintro k x hk rfl
    left
    have h1 := sum_take (fun n => (findF n fs).length) L k hk
    have h2 := sum_le (fun n => (findF n fs).length) L (k + 1)
    unfold emendlaw19_SitesAll_b2
    simp only
    rw [← hfs, if_pos (decide_eq_true (by omega)), ix_at hk, Option.bind_some, hfind, Option.bind_some, chkT (by omega), chkT (by omega)]
    refine ⟨_, rfl, ?_⟩
    rw [h1]; congr 1) (by
    rintro x rfl
    refine ⟨_, ?_, rfl⟩
    unfold emendlaw19_SitesAll_b2
    simp only
    rw [if_neg (by simp), List.take_length, hsum])
  rw [g1, Option.bind_some]
  unfold emendlaw19_SitesAll_j1
  have htl := tokens_len 0 t
  rw [tokens_eq 0 t (by omega), Option.bind_some]
  generalize tokens 0 t = T at *
  obtain ⟨r, g2, rfl⟩ := loopS_ix (f := emendlaw19_SitesAll_b4 T) T.length (by omega) (fun k x => x = (((idents (T.take k)).length : Int), (k : Int))) (fun r => r = (m : Int)) (s0 := ((0 : Int), (0 : Int))) rfl (by
    rintro k x hk rfl
    left
    have h1 : idents (T.take (k + 1)) = idents (T.take k) ++ idents [T[k]] := by
      unfold idents; rw [List.take_add_one, List.getElem?_eq_getElem hk, List.filter_append]; rfl
    have h2 : (idents (T.take k)).length ≤ T.length := by
      unfold idents
      refine Nat.le_trans (List.length_filter_le _ _) ?_
      rw [List.length_take]; omega
    unfold emendlaw19_SitesAll_b4
    simp only
    rw [if_pos (decide_eq_true (by omega)), ix_at hk, Option.bind_some, h1, List.length_append]
    by_cases hk1 : T[k].kind = 1
    · rw [if_pos (decide_eq_true hk1), chkT (by omega), chkT (by omega)]
      refine ⟨_, rfl, ?_⟩
      unfold idents
      rw [List.filter_cons, if_pos (decide_eq_true hk1)]; rfl
    · rw [if_neg (by simpa using hk1), chkT (by omega)]
      refine ⟨_, rfl, ?_⟩
      unfold idents
      rw [List.filter_cons, if_neg (by simpa using hk1)]; rfl) (by
    rintro x rfl
    refine ⟨_, ?_, rfl⟩
    unfold emendlaw19_SitesAll_b4
    simp only
    rw [if_neg (by simp), List.take_length, hid])
  rw [g2, Option.bind_some]
  unfold emendlaw19_SitesAll_j3
  simp [andO]
end Go.Sh
