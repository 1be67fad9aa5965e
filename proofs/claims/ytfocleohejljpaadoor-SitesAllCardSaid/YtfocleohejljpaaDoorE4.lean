/-
  SitesBoth in plain words. No program in sight.
-/
import Derived.Test.YtfocleohejljpaaDoorEm
set_option linter.unusedVariables false
set_option linter.unusedSimpArgs false
namespace Go.Sh
open Go
/-- a token, a line, a word, a site of a file that stands d files later -/
def fm (d : Int) (t : GTok) : GTok := ⟨t.kind, t.text, t.file_ + d, t.from_, t.to, t.blank⟩
def ml (d : Int) (x : GLine) : GLine := ⟨x.kind, x.first, x.n, x.toks.map (fm d)⟩
def mw (d : Int) (w : GSites_word) : GSites_word := ⟨fm d w.tok, ml d w.line_, w.number, w.at_, w.all.map (fm d)⟩
def ms (d : Int) (s : GSite) : GSite := ⟨s.file_ + d, s.from_, s.to, s.line_, s.role⟩
theorem tokens_fm (i d : Int) (t : List UInt8) : tokens (i + d) t = (tokens i t).map (fm d) := by
  unfold tokens; rw [List.map_map]; rfl
theorem pieces_fm (d : Int) : ∀ (l : List GTok) (f i : Nat), piecesF f i (l.map (fm d)) = piecesF f i l
  | [], _, _ => rfl
  | t :: r, f, i => by
    rw [List.map_cons, piecesF, piecesF, pieces_fm d r, pieces_fm d r]; rfl
theorem lineOf_fm (d : Int) (l : List GTok) (a : Int) : lineOf (l.map (fm d)) a = ml d (lineOf l a) := by
  match l with
  | [] => rfl
  | [t] =>
    simp only [lineOf, List.map_cons, List.map_nil]
    by_cases h : t.kind = 5 ∧ t.text = [35]
    · rw [if_pos (show (fm d t).kind = 5 ∧ (fm d t).text = [35] from h), if_pos h]; rfl
    · rw [if_neg (show ¬ ((fm d t).kind = 5 ∧ (fm d t).text = [35]) from h), if_neg h]; rfl
  | t :: u :: r =>
    simp only [lineOf, List.map_cons]
    by_cases h : t.kind = 5 ∧ t.text = [35]
    · rw [if_pos (show (fm d t).kind = 5 ∧ (fm d t).text = [35] from h), if_pos h]
      by_cases h2 : u.kind = 1 ∧ kindOf u.text ≠ 0
      · rw [if_pos (show (fm d u).kind = 1 ∧ kindOf (fm d u).text ≠ 0 from h2), if_pos h2]
        simp only [ml, List.length_map]; rfl
      · rw [if_neg (show ¬ ((fm d u).kind = 1 ∧ kindOf (fm d u).text ≠ 0) from h2), if_neg h2]
        simp only [ml, List.length_map, List.map_cons]
    · rw [if_neg (show ¬ ((fm d t).kind = 5 ∧ (fm d t).text = [35]) from h), if_neg h]
      simp only [ml, List.length_map, List.length_cons, List.map_cons]
theorem linesOf_fm (d : Int) (l : List GTok) : linesOf (l.map (fm d)) = (linesOf l).map (ml d) := by
  unfold linesOf
  rw [pieces_fm, List.map_map]
  refine List.map_congr_left fun p _ => ?_
  simp only [Function.comp, pieceOf]
  rw [← List.map_drop, ← List.map_take, lineOf_fm]
theorem allOf_fm (d : Int) (l : List GTok) (x : GLine) : allOf (l.map (fm d)) (ml d x) = (allOf l x).map (fm d) := by
  unfold allOf ml
  rw [List.map_take, List.map_drop]
theorem wordsL_fm (d : Int) (x : GLine) (n : Int) (all : List GTok) : ∀ (r : List GTok) (k : Nat), wordsL (ml d x) n (all.map (fm d)) k (r.map (fm d)) = (wordsL x n all k r).map (mw d)
  | [], _ => rfl
  | t :: r, k => by
    rw [List.map_cons, wordsL, wordsL, wordsL_fm d x n all r (k + 1)]
    by_cases h : t.kind = 1
    · rw [if_pos (show (fm d t).kind = 1 from h), if_pos h]; rfl
    · rw [if_neg (show ¬ (fm d t).kind = 1 from h), if_neg h]
theorem linesW_fm (d : Int) (l : List GTok) : ∀ (xs : List GLine) (n : Nat), linesW (l.map (fm d)) n (xs.map (ml d)) = (linesW l n xs).map (mw d)
  | [], _ => rfl
  | x :: r, n => by
    rw [List.map_cons, linesW, linesW, linesW_fm d l r (n + 1), allOf_fm, wordsL_fm, List.map_append]
theorem wordsF_fm (d : Nat) : ∀ (fs : List GFile) (i : Nat), wordsF (i + d) fs = (wordsF i fs).map (mw (d : Int))
  | [], _ => rfl
  | f :: r, i => by
    have h := wordsF_fm d r (i + 1)
    have e : ((i + d : Nat) : Int) = (i : Int) + (d : Int) := by omega
    rw [wordsF, wordsF, show i + d + 1 = i + 1 + d by omega, h, List.map_append, e, tokens_fm, linesOf_fm, linesW_fm]
theorem wordsF_append : ∀ (a b : List GFile) (i : Nat), wordsF i (a ++ b) = wordsF i a ++ wordsF (i + a.length) b
  | [], b, i => rfl
  | f :: a, b, i => by
    rw [List.cons_append, wordsF, wordsF, wordsF_append a b (i + 1), List.append_assoc, List.length_cons, show i + 1 + a.length = i + (a.length + 1) by omega]
theorem any_fm (d : Int) (s : List UInt8) (l : List GTok) : (l.map (fm d)).any (sgn s) = l.any (sgn s) := by rw [List.any_map]; rfl
theorem part_fm (d : Int) (x : GLine) (i : Int) : partOf (ml d x) i = partOf x i := by
  have hb : ∀ n, bodyAt (x.toks.map (fm d)) n = bodyAt x.toks n := by
    intro n
    match x.toks with
    | [] => rfl
    | [t] => rfl
    | t :: u :: r =>
      simp only [List.map_cons, bodyAt]
      have e : List.drop 1 (fm d t :: fm d u :: r.map (fm d)) = (List.drop 1 (t :: u :: r)).map (fm d) := rfl
      rw [e, ← List.map_take, any_fm]; rfl
  have e : bodyAt (ml d x).toks i.toNat = bodyAt x.toks i.toNat := hb _
  unfold partOf
  rw [e]
  rfl
theorem site_fm (d : Int) (name : List UInt8) (w : GSites_word) : siteF name (mw d w) = (siteF name w).map (ms d) := by
  have ha : ahead (ml d w.line_) = ahead w.line_ := by unfold ahead ml; simp
  unfold siteF
  simp only [mw, part_fm, ha]
  by_cases h : w.tok.text = name
  · rw [if_pos (show (fm d w.tok).text = name from h), if_pos h]; rfl
  · rw [if_neg (show ¬ (fm d w.tok).text = name from h), if_neg h]; rfl
theorem sites_fm (d : Int) (name : List UInt8) : ∀ ws : List GSites_word, (ws.map (mw d)).filterMap (siteF name) = (ws.filterMap (siteF name)).map (ms d)
  | [] => rfl
  | w :: ws => by
    rw [List.map_cons]
    cases h : siteF name w with
    | none =>
      have h2 : siteF name (mw d w) = none := by rw [site_fm, h]; rfl
      rw [List.filterMap_cons_none h2, List.filterMap_cons_none h, sites_fm d name ws]
    | some s =>
      have h2 : siteF name (mw d w) = some (ms d s) := by rw [site_fm, h]; rfl
      rw [List.filterMap_cons_some h2, List.filterMap_cons_some h, List.map_cons, sites_fm d name ws]
theorem find_append (name : List UInt8) (a b : List GFile) : findF name (a ++ b) = findF name a ++ (findF name b).map (ms (a.length : Int)) := by
  unfold findF
  rw [wordsF_append, List.filterMap_append, wordsF_fm, sites_fm]
theorem wordsL_tok (x : GLine) (n : Int) (all : List GTok) : ∀ (r : List GTok) (k : Nat), ∀ w ∈ wordsL x n all k r, w.tok ∈ r
  | [], _ => fun w hw => by cases hw
  | t :: r, k => by
    intro w hw
    rw [wordsL] at hw
    by_cases h : t.kind = 1
    · rw [if_pos h] at hw
      rcases List.mem_cons.1 hw with rfl | hw
      · simp
      · exact List.mem_cons_of_mem _ (wordsL_tok x n all r (k + 1) w hw)
    · rw [if_neg h] at hw
      exact List.mem_cons_of_mem _ (wordsL_tok x n all r (k + 1) w hw)
theorem linesW_tok (l : List GTok) : ∀ (xs : List GLine) (n : Nat), ∀ w ∈ linesW l n xs, w.tok ∈ l
  | [], _ => fun w hw => by cases hw
  | x :: r, n => by
    intro w hw
    rw [linesW] at hw
    rcases List.mem_append.1 hw with hw | hw
    · have := wordsL_tok _ _ _ _ _ w hw
      unfold allOf at this
      exact List.mem_of_mem_drop (List.mem_of_mem_take this)
    · exact linesW_tok l r (n + 1) w hw
theorem wordsF_file : ∀ (fs : List GFile) (i : Nat), ∀ w ∈ wordsF i fs, 0 ≤ w.tok.file_ ∧ w.tok.file_ < ((i + fs.length : Nat) : Int)
  | [], _ => fun w hw => by cases hw
  | f :: r, i => by
    intro w hw
    rw [wordsF] at hw
    rw [List.length_cons]
    rcases List.mem_append.1 hw with hw | hw
    · have h := linesW_tok _ _ _ w hw
      unfold tokens at h
      obtain ⟨q, _, hq⟩ := List.mem_map.1 h
      have : w.tok.file_ = (i : Int) := by rw [← hq]; rfl
      omega
    · have := wordsF_file r (i + 1) w hw; omega
theorem find_file (name : List UInt8) (fs : List GFile) : ∀ s ∈ findF name fs, 0 ≤ s.file_ ∧ s.file_ < (fs.length : Int) := by
  intro s hs
  unfold findF at hs
  obtain ⟨w, hw, he⟩ := List.mem_filterMap.1 hs
  have h := wordsF_file fs 0 w hw
  unfold siteF at he
  split at he
  · injection he with he
    rw [← he]; simp only; omega
  · cases he
theorem sitesBoth_law (a b : List GFile) (name : List UInt8) : emendlaw19_SitesBoth a b name = some true := by
  unfold emendlaw19_SitesBoth
  rw [awake19, Option.bind_some, short_eq a 600 (by omega), Option.bind_some, short_eq b 600 (by omega), Option.bind_some]
  by_cases hsa : (decide (a.length ≤ 6) && a.all (fun f => decide ((f.text.length : Int) ≤ 600) && decide (f.path.length ≤ 100))) = true
  rotate_left
  · rw [Bool.eq_false_iff.2 hsa]; rfl
  by_cases hsb : (decide (b.length ≤ 6) && b.all (fun f => decide ((f.text.length : Int) ≤ 600) && decide (f.path.length ≤ 100))) = true
  rotate_left
  · rw [hsa, Bool.eq_false_iff.2 hsb]; rfl
  obtain ⟨a6, at_⟩ := short_true hsa
  obtain ⟨b6, bt⟩ := short_true hsb
  rw [hsa, hsb]
  by_cases ha : 3 < a.length
  · rw [show (orO (!true) (some (!true))) = some false from rfl, Option.bind_some, show orO false (some (decide ((3 : Int) < (a.length : Int)))) = some true by rw [decide_eq_true (by omega)]; rfl]; rfl
  by_cases hb : 3 < b.length
  · rw [show (orO (!true) (some (!true))) = some false from rfl, Option.bind_some, show orO false (some (decide ((3 : Int) < (a.length : Int)))) = some false by rw [decide_eq_false (by omega)]; rfl, Option.bind_some, show orO false (some (decide ((3 : Int) < (b.length : Int)))) = some true by rw [decide_eq_true (by omega)]; rfl]; rfl
  rw [show (orO (!true) (some (!true))) = some false from rfl, Option.bind_some, show orO false (some (decide ((3 : Int) < (a.length : Int)))) = some false by rw [decide_eq_false (by omega)]; rfl, Option.bind_some, show orO false (some (decide ((3 : Int) < (b.length : Int)))) = some false by rw [decide_eq_false (by omega)]; rfl, Option.bind_some, if_neg (by simp)]
  have a600 : ∀ f ∈ a, f.text.length ≤ 600 := fun f hf => by have := at_ f hf; omega
  have b600 : ∀ f ∈ b, f.text.length ≤ 600 := fun f hf => by have := bt f hf; omega
  have ab600 : ∀ f ∈ a ++ b, f.text.length ≤ 600 := fun f hf => by
    rcases List.mem_append.1 hf with hf | hf
    · exact a600 f hf
    · exact b600 f hf
  have hab : (a ++ b).length ≤ 6 := by rw [List.length_append]; omega
  obtain ⟨wa, la⟩ := findF_len name a a6 a600
  obtain ⟨wb, lb⟩ := findF_len name b b6 b600
  obtain ⟨wab, lab⟩ := findF_len name (a ++ b) hab ab600
  have up : ∀ (fs : List GFile), (∀ f ∈ fs, f.text.length ≤ 600) → ∀ f ∈ fs, f.text.length ≤ 2000000 := fun fs h f hf => by have := h f hf; omega
  have e1 : (([] : List GFile) ++ a) ++ b = a ++ b := rfl
  have e2 : ([] : List GFile) ++ a = a := rfl
  rw [e1, e2, find_eq a name (by omega) (up a a600) wa, Option.bind_some, find_eq b name (by omega) (up b b600) wb, Option.bind_some, chkT (by rw [List.length_nil]; omega), chkT (by omega), find_eq (a ++ b) name (by omega) (up _ ab600) wab, Option.bind_some]
  have hfile := find_file name b
  have happ := find_append name a b
  rw [happ]
  generalize findF name a = r4 at *
  generalize findF name b = r5 at *
  rw [chkT (show I64 ((r4.length : Int) + (r5.length : Int)) by omega)]
  have hlen : (r4 ++ r5.map (ms (a.length : Int))).length = r4.length + r5.length := by simp
  rw [show (decide (((r4 ++ r5.map (ms (a.length : Int))).length : Int) = (r4.length : Int) + (r5.length : Int))) = true from decide_eq_true (by rw [hlen]; omega), chkT (by rw [hlen]; omega), Int.toNat_natCast, List.take_left' rfl, ssame_eq _ _ (by omega), decide_eq_true rfl]
  rw [show orO (!true) ((some true).bind fun r_7 => some (!r_7)) = some false from rfl, Option.bind_some, if_neg (by simp)]
  obtain ⟨r, g1, rfl⟩ := loopS_ix (f := emendlaw19_SitesBoth_b2 a r4 r5 (r4 ++ r5.map (ms (a.length : Int)))) r5.length (by omega) (fun k x => x = (k : Int)) (fun r => r = .inl ()) (s0 := (0 : Int)) rfl (by
    rintro k x hk rfl
    left
    unfold emendlaw19_SitesBoth_b2
    have hf := hfile r5[k] (List.getElem_mem hk)
    have hg : (r4 ++ r5.map (ms (a.length : Int)))[r4.length + k]? = some (ms (a.length : Int) r5[k]) := by
      rw [List.getElem?_append_right (by omega), Nat.add_sub_cancel_left, List.getElem?_map, List.getElem?_eq_getElem hk]; rfl
    rw [if_pos (decide_eq_true (show (k : Int) < (r5.length : Int) by omega)), ix_at hk, Option.bind_some, chkT (show I64 (r5[k].file_ + (a.length : Int)) by omega), chkT (show I64 ((r4.length : Int) + (k : Int)) by omega), ix_of hg (by omega), Option.bind_some, if_neg (by simp [ms]), chkT (show I64 ((k : Int) + 1) by omega)]
    exact ⟨_, rfl, rfl⟩) (by
    rintro x rfl
    refine ⟨.inl (), ?_, rfl⟩
    unfold emendlaw19_SitesBoth_b2
    exact if_neg (by simp))
  rw [g1]; rfl
end Go.Sh
