/-
  Part of the proof of If.
-/
import Derived.Test.YtgmpeddopfnioaaGreatDoorQiPlx
import Derived.Test.YtgmpeddopfnioaaGreatDoorQiShx

set_option linter.unusedVariables false
set_option linter.unusedSimpArgs false
namespace Go.Sh
open Go
end Go.Sh
set_option linter.unusedVariables false
set_option linter.unusedSimpArgs false
namespace Go.Sh
open Go
end Go.Sh
set_option linter.unusedVariables false
set_option linter.unusedSimpArgs false
namespace Go.Sh
open Go
end Go.Sh
set_option linter.unusedVariables false
set_option linter.unusedSimpArgs false
namespace Go.Sh
open Go
end Go.Sh
set_option linter.unusedVariables false
set_option linter.unusedSimpArgs false
namespace Go.Sh
open Go
theorem charsAt_cons {c : UInt8} (hc : c ≠ 92) (t : List UInt8) (i : Nat) : charsAt i (c :: t) = ⟨c, i⟩ :: charsAt (i + 1) t := by
 cases t with
 | nil => rfl
 | cons d r => simp only [charsAt, if_neg (fun h : c = 92 ∧ d = 10 => hc h.1)]
end Go.Sh
set_option linter.unusedVariables false
set_option linter.unusedSimpArgs false
namespace Go.Sh
open Go
def Begins (X r : List UInt8) : Prop := ∀ q : List UInt8, (∀ c ∈ q, c ≠ 32) → q <+: X → q <+: r
theorem Begins.nil (r : List UInt8) : Begins [] r := fun q _ h => by rw [List.prefix_nil.1 h]; exact List.nil_prefix
theorem Begins.head {X r : List UInt8} (h : Begins X r) {c : UInt8} {X' : List UInt8} (hX : X = c :: X') (hc : c ≠ 32) : ∃ r', r = c :: r' := by
 obtain ⟨s, hs⟩ := h [c] (by simpa using hc) ⟨X', by rw [hX]; rfl⟩
 exact ⟨s, hs.symm⟩
end Go.Sh
set_option linter.unusedVariables false
set_option linter.unusedSimpArgs false
namespace Go.Sh
open Go
end Go.Sh
set_option linter.unusedVariables false
set_option linter.unusedSimpArgs false
namespace Go.Sh
open Go
def ptk (p : PT) : Int × List UInt8 × Bool := (p.kind, p.text, p.blank)
theorem tokens_tk (file : Int) (t : List UInt8) : (tokens file t).map tk = (toks 0 false ((charsAt 0 t).map GChar.b)).map ptk := by
 unfold tokens; rw [List.map_map]; rfl
theorem toks_shift (n : Nat) : ∀ (i j : Nat) (b : Bool) (u : List UInt8), u.length ≤ n → (toks i b u).map ptk = (toks j b u).map ptk := by
 induction n with
 | zero =>
  intro i j b u h
  have : u = [] := List.length_eq_zero_iff.1 (by omega)
  subst this; rw [toks_nil, toks_nil]
 | succ n ih =>
  intro i j b u h
  by_cases hu : u = []
  ·subst hu; rw [toks_nil, toks_nil]
  by_cases hb : 0 < blankLen u
  ·rw [toks_blank hb, toks_blank hb]
   exact ih _ _ _ _ (by rw [List.length_drop]; omega)
  ·have := nextTok_pos u
   rw [toks_tok hu (by omega), toks_tok hu (by omega), List.map_cons, List.map_cons, ih _ (j + (nextTok u).2) _ _ (by rw [List.length_drop]; omega)]; rfl
theorem charsAt_no92 : ∀ (s : List UInt8) (j : Nat), (∀ c ∈ s, c ≠ 92) → (charsAt j s).map GChar.b = s
 | [], j, _ => rfl
 | c :: r, j, h => by rw [charsAt_cons (h c (by simp)), List.map_cons, charsAt_no92 r (j + 1) (fun c hc => h c (by simp [hc]))]
theorem wordTail_nl (v : List UInt8) : ∀ u : List UInt8, wordTail (u ++ 10 :: v) = wordTail u
 | [] => by simp only [List.nil_append, wordTail]; rw [if_neg (by decide)]
 | c :: r => by simp only [List.cons_append, wordTail, wordTail_nl v r]
theorem numTail_nl (v : List UInt8) (n : Nat) : ∀ u : List UInt8, u.length ≤ n → numTail (u ++ 10 :: v) = numTail u := by
 induction n with
 | zero =>
  intro u h
  have : u = [] := List.length_eq_zero_iff.1 (by omega)
  subst this
  rw [List.nil_append, numTail_cons, if_neg (by rw [show isExp 10 = false by decide]; simp), if_neg (by decide)]; rfl
 | succ n ih =>
  intro u h
  cases u with
  | nil => rw [List.nil_append, numTail_cons, if_neg (by rw [show isExp 10 = false by decide]; simp), if_neg (by decide)]; rfl
  | cons c r =>
   rw [List.length_cons] at h
   rw [List.cons_append, numTail_cons, numTail_cons, ih r (by omega)]
   cases r with
   | nil =>
    rw [List.nil_append, List.headD_cons, List.headD_nil, show isPM 10 = false by decide, show isPM 0 = false by decide]
    simp
   | cons d r2 =>
    rw [List.cons_append, List.headD_cons, List.headD_cons, List.drop_succ_cons, List.drop_zero, List.drop_succ_cons, List.drop_zero, ih r2 (by simp only [List.length_cons] at h; omega)]
theorem quoTail_nl (q : UInt8) (hq : q ≠ 10) (v : List UInt8) (n : Nat) : ∀ u : List UInt8, u.length ≤ n → quoTail q (u ++ 10 :: v) = quoTail q u := by
 induction n with
 | zero =>
  intro u h
  have : u = [] := List.length_eq_zero_iff.1 (by omega)
  subst this
  rw [List.nil_append, quoTail_cons, if_neg (Ne.symm hq), if_pos rfl]; rfl
 | succ n ih =>
  intro u h
  cases u with
  | nil => rw [List.nil_append, quoTail_cons, if_neg (Ne.symm hq), if_pos rfl]; rfl
  | cons c r =>
   rw [List.length_cons] at h
   rw [List.cons_append, quoTail_cons, quoTail_cons, ih r (by omega)]
   cases r with
   | nil => simp
   | cons d r2 =>
    rw [List.cons_append, List.head?_cons, List.head?_cons, List.drop_succ_cons, List.drop_zero, List.drop_succ_cons, List.drop_zero, ih r2 (by simp only [List.length_cons] at h; omega)]
    simp
theorem prefix_nl (v : List UInt8) : ∀ (p u : List UInt8), (∀ c ∈ p, c ≠ 10) → p.isPrefixOf (u ++ 10 :: v) = p.isPrefixOf u
 | [], u, _ => by simp
 | x :: p, [], h => by simp [List.isPrefixOf, h x (by simp)]
 | x :: p, c :: u, h => by simp only [List.cons_append, List.isPrefixOf, prefix_nl v p u (fun c hc => h c (by simp [hc]))]
theorem any_congr_ {α : Type} {f g : α → Bool} : ∀ (l : List α), (∀ x ∈ l, f x = g x) → l.any f = l.any g
 | [], _ => rfl
 | x :: l, h => by rw [List.any_cons, List.any_cons, h x (by simp), any_congr_ l (fun y hy => h y (by simp [hy]))]
theorem nextTok_nl (u v : List UInt8) (hu : u ≠ []) : nextTok (u ++ 10 :: v) = nextTok u := by
  have h0 : (u ++ 10 :: v).head? = u.head? := by cases u with | nil => exact absurd rfl hu | cons c r => rfl
  have h1 : wordLen (u ++ 10 :: v) = wordLen u := by
    cases u with
    | nil => exact absurd rfl hu
    | cons c r => simp only [List.cons_append, wordLen, wordTail_nl]
  have h2 : numLen (u ++ 10 :: v) = numLen u := by
    cases u with
    | nil => exact absurd rfl hu
    | cons c r =>
      simp only [List.cons_append, numLen, numTail_nl v _ r (Nat.le_refl _)]
      cases r with
      | nil => rw [List.nil_append, List.headD_cons, List.headD_nil, show isDigit 10 = false by decide, show isDigit 0 = false by decide]
      | cons d r2 => rfl
  have h3 : ∀ q, q = 34 ∨ q = 39 → quoLen q (u ++ 10 :: v) = quoLen q u := by
    intro q hq
    have hq10 : q ≠ 10 := by rcases hq with rfl | rfl <;> decide
    cases u with
    | nil => exact absurd rfl hu
    | cons c r =>
      simp only [List.cons_append, quoLen, quoTail_nl q hq10 v _ r (Nat.le_refl _)]
      cases r with
      | nil => simp [Ne.symm hq10]
      | cons d r2 => rfl
  have h4 : signLen (u ++ 10 :: v) = signLen u := by
    unfold signLen
    rw [any_congr_ three (fun p hp => prefix_nl v p u ((by decide : ∀ p ∈ three, ∀ c ∈ p, c ≠ 10) p hp)), any_congr_ two (fun p hp => prefix_nl v p u ((by decide : ∀ p ∈ two, ∀ c ∈ p, c ≠ 10) p hp)), h0]
  unfold nextTok
  rw [h0, h1, h2, h3 34 (.inl rfl), h3 39 (.inr rfl), h4]
theorem blankLen_nl (u v : List UInt8) (hu : u ≠ []) (h47 : ∀ c ∈ u, c ≠ 47) : blankLen (u ++ 10 :: v) = blankLen u := by
 cases u with
 | nil => exact absurd rfl hu
 | cons c r =>
  have hc := h47 c (by simp)
  simp only [List.cons_append, blankLen, hc, false_and, if_false]
theorem toks_line (v : List UInt8) (n : Nat) : ∀ (i j : Nat) (b : Bool) (u : List UInt8), u.length ≤ n → (∀ c ∈ u, c ≠ 47) → ∃ i2 b2, (toks i b (u ++ 10 :: v)).map ptk = (toks j b u).map ptk ++ (toks i2 b2 (10 :: v)).map ptk := by
 induction n with
 | zero =>
  intro i j b u h _
  have : u = [] := List.length_eq_zero_iff.1 (by omega)
  subst this
  exact ⟨i, b, by rw [toks_nil]; rfl⟩
 | succ n ih =>
  intro i j b u h h47
  by_cases hu : u = []
  ·subst hu; exact ⟨i, b, by rw [toks_nil]; rfl⟩
  have hu2 : u ++ 10 :: v ≠ [] := by simp
  have hbl := blankLen_nl u v hu h47
  have h48 : ∀ m, ∀ c ∈ u.drop m, c ≠ 47 := fun m c hc => h47 c (List.mem_of_mem_drop hc)
  by_cases hb : 0 < blankLen u
  ·have hle := blankLen_le u
   rw [toks_blank (by omega), toks_blank hb, hbl, List.drop_append_of_le_length hle]
   exact ih _ _ _ _ (by rw [List.length_drop]; omega) (h48 _)
  ·have hp := nextTok_pos u
   have hle := nextTok_le u hu
   rw [toks_tok hu2 (by omega), toks_tok hu (by omega), nextTok_nl u v hu, List.drop_append_of_le_length hle, List.take_append_of_le_length hle]
   obtain ⟨i2, b2, e⟩ := ih (i + (nextTok u).2) (j + (nextTok u).2) false _ (by rw [List.length_drop]; omega) (h48 (nextTok u).2)
   exact ⟨i2, b2, by rw [List.map_cons, e]; rfl⟩
end Go.Sh
set_option linter.unusedVariables false
set_option linter.unusedSimpArgs false
namespace Go.Sh
open Go
def kindFrom (w : List UInt8) : Int → List (List UInt8) → Int
 | _, [] => 0
 | n, y :: r => if w = y then n else kindFrom w (n + 1) r
def kindOf (w : List UInt8) : Int := kindFrom w 2 words
theorem words_len : words.length = 12 := rfl
theorem kind_eq (w : List UInt8) : direct_Kind w = some (kindOf w) := by
 unfold direct_Kind
 obtain ⟨r, h1, h2⟩ := loopS_ix (f := direct_Kind_b2 w) 12 (by omega) (fun k x => x = (k : Int) ∧ kindFrom w (2 + k) (words.drop k) = kindOf w) (fun r => (match r with | .inl _ => 0 | .inr n => n) = kindOf w) (s0 := (0 : Int)) ⟨rfl, rfl⟩ (by
  rintro k x hk ⟨rfl, h⟩
  have hk' : k < words.length := by rw [words_len]; exact hk
  unfold direct_Kind_b2
  simp only [chkB, andB, orB, condAnd, condOr, iteB, neqB, nltB, nleB, m8_9, m8_10, m8_11, m8_12, m8_13, m8_32, m8_34, m8_35, m8_39, m8_40, m8_41, m8_42, m8_43, m8_44, m8_45, m8_46, m8_47, m8_48, m8_60, m8_62, m8_64, m8_65, m8_67, m8_69, m8_80, m8_90, m8_92, m8_95, m8_97, m8_101, m8_112, m8_122, m8, orO_some, andO_some, Option.bind_some, getD_drop]
  rw [iteT (ltT (by omega)), ix_at hk', Option.bind_some]
  rw [List.drop_eq_getElem_cons hk', kindFrom] at h
  by_cases hw : w = words[k]
  ·right
   rw [if_pos hw] at h
   exact ⟨.inr (2 + (k : Int)), by rw [iteT (eqT hw.symm), pk (by omega)], h⟩
  ·left
   rw [if_neg hw] at h
   refine ⟨((k + 1 : Nat) : Int), by rw [iteF (eqF (Ne.symm hw)), pk (by omega)]; rfl, rfl, ?_⟩
   rw [← h]; congr 1) (by
  rintro x ⟨rfl, h⟩
  refine ⟨.inl (), ?_, ?_⟩
  ·unfold direct_Kind_b2
   simp only [chkB, andB, orB, condAnd, condOr, iteB, neqB, nltB, nleB, m8_9, m8_10, m8_11, m8_12, m8_13, m8_32, m8_34, m8_35, m8_39, m8_40, m8_41, m8_42, m8_43, m8_44, m8_45, m8_46, m8_47, m8_48, m8_60, m8_62, m8_64, m8_65, m8_67, m8_69, m8_80, m8_90, m8_92, m8_95, m8_97, m8_101, m8_112, m8_122, m8, orO_some, andO_some, Option.bind_some, getD_drop]
   exact iteF (ltF (by omega))
  ·rw [List.drop_of_length_le (by rw [words_len]; exact Nat.le_refl _)] at h
   exact h)
 rw [h1, Option.bind_some]
 cases r with
 | inl u => simp only at h2; rw [← h2]; rfl
 | inr n => simp only at h2; rw [← h2]
def lineOf (l : List GTok) (first : Int) : GLine :=
 match l with
 | [] => ⟨1, first, 0, []⟩
 | t :: r => if t.kind = 5 ∧ t.text = [35] then
   (match r with
   | [] => ⟨14, first, 1, []⟩
   | u :: r2 => if u.kind = 1 ∧ kindOf u.text ≠ 0 then ⟨kindOf u.text, first, (r2.length + 2 : Nat), r2⟩ else ⟨15, first, (r2.length + 2 : Nat), u :: r2⟩)
  else ⟨1, first, (r.length + 1 : Nat), t :: r⟩
theorem dsign_eq (t : GTok) (s : List UInt8) : direct_sign t s = some (decide (t.kind = 5) && decide (t.text = s)) := by
 unfold direct_sign; simp only [andO_some, Option.bind_some]
theorem line_eq (l : List GTok) : direct_line l = some (lineOf l 0) := by
 unfold direct_line
 match l with
 | [] => rfl
 | t :: r =>
  have x0 : ix (t :: r) 0 = some t := rfl
  simp only [x0, dsign_eq, chkB, andB, orB, condAnd, condOr, iteB, neqB, nltB, nleB, m8_9, m8_10, m8_11, m8_12, m8_13, m8_32, m8_34, m8_35, m8_39, m8_40, m8_41, m8_42, m8_43, m8_44, m8_45, m8_46, m8_47, m8_48, m8_60, m8_62, m8_64, m8_65, m8_67, m8_69, m8_80, m8_90, m8_92, m8_95, m8_97, m8_101, m8_112, m8_122, m8, orO_some, andO_some, Option.bind_some, getD_drop]
  rw [eqF (show ¬ (((t :: r).length : Int) = 0) by simp; omega)]
  simp only [Bool.false_or]
  unfold lineOf
  by_cases hs : t.kind = 5 ∧ t.text = [35]
  ·rw [iteF (by rw [eqT hs.1, eqT hs.2]; rfl), pk (by simp only [List.length_cons]; omega)]
   simp only [if_pos hs]
   match r with
   | [] => rfl
   | u :: r2 =>
    have x1 : ix (t :: u :: r2) 1 = some u := rfl
    rw [iteF (eqF (by simp only [List.length_cons]; omega)), x1]
    simp only [kind_eq, chkB, andB, orB, condAnd, condOr, iteB, neqB, nltB, nleB, m8_9, m8_10, m8_11, m8_12, m8_13, m8_32, m8_34, m8_35, m8_39, m8_40, m8_41, m8_42, m8_43, m8_44, m8_45, m8_46, m8_47, m8_48, m8_60, m8_62, m8_64, m8_65, m8_67, m8_69, m8_80, m8_90, m8_92, m8_95, m8_97, m8_101, m8_112, m8_122, m8, orO_some, andO_some, Option.bind_some, getD_drop, direct_line_j1]
    by_cases h1 : u.kind = 1
    ·rw [iteF (by rw [eqT h1]; rfl)]
     by_cases h2 : kindOf u.text = 0
     ·rw [iteF (by rw [eqT h2]; rfl), if_neg (fun h => h.2 h2)]; rfl
     ·rw [iteT (by rw [eqF h2]; rfl), pk (by simp only [List.length_cons]; omega), if_pos ⟨h1, h2⟩]; rfl
    ·rw [iteT (by rw [eqF h1]; rfl), if_neg (fun h => h1 h.1)]; rfl
  ·simp only [if_neg hs]
   rw [iteT]
   ·rfl
   ·rcases Decidable.not_and_iff_or_not.1 hs with h | h
    ·rw [eqF h]; rfl
    ·rw [eqF h, Bool.and_false]; rfl
theorem lineOf_first (l : List GTok) (a b : Int) : (GLine.mk (lineOf l a).kind b (lineOf l a).n (lineOf l a).toks) = lineOf l b := by
  unfold lineOf
  match l with
  | [] => rfl
  | [t] => simp only; split <;> rfl
  | t :: u :: r => simp only; split <;> (try split) <;> rfl
def pieceOf (l : List GTok) (p : Int × Int) : GLine := lineOf ((l.drop p.1.toNat).take (p.2.toNat - p.1.toNat)) p.1
def linesOf (l : List GTok) : List GLine := (piecesF 0 0 l).map (pieceOf l)
theorem pieces_bound (n : Nat) : ∀ (l : List GTok) (f i : Nat), i + l.length = n → f ≤ i → (piecesF f i l).length ≤ l.length + 1 ∧ ∀ p ∈ piecesF f i l, 0 ≤ p.1 ∧ p.1 ≤ p.2 ∧ p.2 ≤ (n : Int)
  | [], f, i, hn, hf => by
    unfold piecesF; split
    · refine ⟨by simp, fun p hp => ?_⟩
      simp at hp; subst hp; simp at hn; simp only; omega
    · exact ⟨by simp, fun p hp => by simp at hp⟩
  | t :: r, f, i, hn, hf => by
    rw [List.length_cons] at hn
    unfold piecesF; split
    · obtain ⟨h1, h2⟩ := pieces_bound n r (i + 1) (i + 1) (by omega) (Nat.le_refl _)
      refine ⟨by simp only [List.length_cons]; omega, fun p hp => ?_⟩
      rcases List.mem_cons.1 hp with rfl | hp
      · simp only; omega
      · exact h2 p hp
    · obtain ⟨h1, h2⟩ := pieces_bound n r f (i + 1) (by omega) (by omega)
      exact ⟨by simp only [List.length_cons]; omega, h2⟩
theorem lines_eq (l : List GTok) (h : l.length ≤ 2800000000000) : direct_Lines l = some (linesOf l) := by
 unfold direct_Lines
 have hp : pieces l = some (piecesF 0 0 l) := if_pos (by omega)
 obtain ⟨b1, b2⟩ := pieces_bound l.length l 0 0 (by omega) (Nat.le_refl _)
 rw [hp, Option.bind_some]
 obtain ⟨s, h1, rfl⟩ := foldS_rel (f := direct_Lines_b1 l) (l := piecesF 0 0 l) (fun k s => s = ((piecesF 0 0 l).take k).map (pieceOf l)) (s0 := ([] : List GLine)) rfl (by
  rintro k s x hx rfl
  have hlt := (List.getElem?_eq_some_iff.1 hx).1
  obtain ⟨c1, c2, c3⟩ := b2 x (List.mem_of_getElem? hx)
  refine ⟨((piecesF 0 0 l).take k).map (pieceOf l) ++ [pieceOf l x], ?_, ?_⟩
  ·unfold direct_Lines_b1
   rw [chkT (by omega), line_eq, Option.bind_some, chkT (by rw [List.length_map, List.length_take]; omega), lineOf_first]; rfl
  ·rw [List.take_add_one, hx, List.map_append]; rfl)
 rw [h1, Option.bind_some]
 simp [direct_Lines_k2, linesOf]
end Go.Sh
set_option linter.unusedVariables false
set_option linter.unusedSimpArgs false
namespace Go.Sh
open Go
end Go.Sh
