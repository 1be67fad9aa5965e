/-
  Part of the proof of If.
-/
import Derived.Test.YtgmpeddopfnioaaGreatDoorQiA7sx
import Derived.Lib.Replace
import Derived.Test.YtgmpeddopfnioaaGreatDoorQiPlx
import Derived.KernelRfl
import Derived.Test.YtgmpeddopfnioaaGreatDoorQiSox

set_option linter.unusedVariables false
set_option linter.unusedSimpArgs false
namespace Go.Sh
open Go
end Go.Sh
set_option linter.unusedVariables false
set_option linter.unusedSimpArgs false
namespace Go.Sh
open Go
theorem printT_sub1 {l : List GTok} {x : GTok} (h : x ∈ l) : (printT [x]).length ≤ (printT l).length := by
  induction l with
  | nil => cases h
  | cons t r ih =>
    have e : printT (t :: r) = printOne t ++ printT r := by unfold printT; rw [List.flatMap_cons]
    have e2 : printT [t] = printOne t := by simp [printT]
    rw [e, List.length_append]
    rcases List.mem_cons.1 h with rfl | h
    · rw [e2]; omega
    · have := ih h; omega
end Go.Sh
set_option linter.unusedVariables false
set_option linter.unusedSimpArgs false
namespace Go.Sh
open Go
theorem alive_is : emendtop_alive = some true := by kernel_rfl
theorem plainIn_eq (s signs : List UInt8) (i : Nat) (hi : i < s.length) (h2 : signs.length ≤ 1000) : ∃ r, loopS (emendtop_plain_b4 s signs (i : Int)) (0 : Int) = some r ∧ ((r = .inl () ∧ s[i] ∉ signs) ∨ (r = .inr false ∧ s[i] ∈ signs)) := by
 refine loopS_ix (f := emendtop_plain_b4 s signs (i : Int)) signs.length (by omega) (fun k x => x = (k : Int) ∧ s[i] ∉ signs.take k) _ (s0 := (0 : Int)) ⟨rfl, by simp⟩ ?_ ?_
 ·rintro k x hk ⟨rfl, hn⟩
  unfold emendtop_plain_b4
  rw [if_pos (decide_eq_true (by omega)), ix_at hi, Option.bind_some, ix_at hk, Option.bind_some]
  by_cases e : s[i] = signs[k]
  ·right
   rw [if_pos (decide_eq_true (by rw [e]))]
   exact ⟨_, rfl, .inr ⟨rfl, by rw [e]; exact List.getElem_mem hk⟩⟩
  ·left
   rw [if_neg (by simpa [u8i] using e), chkT (by omega)]
   refine ⟨_, rfl, by push_cast; rfl, fun hm => ?_⟩
   rw [List.take_add_one, List.getElem?_eq_getElem hk] at hm
   rcases List.mem_append.1 hm with hm | hm
   ·exact hn hm
   ·exact e (List.mem_singleton.1 hm)
 ·rintro x ⟨rfl, hn⟩
  rw [List.take_length] at hn
  refine ⟨.inl (), ?_, .inl ⟨rfl, hn⟩⟩
  unfold emendtop_plain_b4
  exact if_neg (by simp)
theorem plain_eq (s : List UInt8) (n : Int) (signs : List UInt8) (hn : n ≤ 1000) (h2 : signs.length ≤ 1000) : emendtop_plain s n signs = some (decide ((s.length : Int) ≤ n ∧ ∀ c ∈ s, c ∉ signs)) := by
 unfold emendtop_plain
 by_cases hl : (s.length : Int) ≤ n
 ·rw [if_neg (by simpa using hl)]
  obtain ⟨r, g1, g2⟩ := loopS_ix (f := emendtop_plain_b2 s signs) s.length (by omega) (fun k x => x = (k : Int) ∧ ∀ c ∈ s.take k, c ∉ signs) (fun r => (r = .inl () ∧ ∀ c ∈ s, c ∉ signs) ∨ (r = .inr false ∧ ¬ ∀ c ∈ s, c ∉ signs)) (s0 := (0 : Int)) ⟨rfl, by simp⟩ (by
   rintro k x hk ⟨rfl, hn2⟩
   unfold emendtop_plain_b2
   rw [if_pos (decide_eq_true (by omega))]
   obtain ⟨q, q1, q2⟩ := plainIn_eq s signs k hk h2
   rw [q1, Option.bind_some]
   rcases q2 with ⟨rfl, q2⟩ | ⟨rfl, q2⟩
   ·left
    simp only [emendtop_plain_j3]
    rw [chkT (by omega)]
    refine ⟨_, rfl, by push_cast; rfl, fun c hc => ?_⟩
    rw [List.take_add_one, List.getElem?_eq_getElem hk] at hc
    rcases List.mem_append.1 hc with hc | hc
    ·exact hn2 c hc
    ·rw [List.mem_singleton.1 hc]; exact q2
   ·right
    exact ⟨_, rfl, .inr ⟨rfl, fun h => h _ (List.getElem_mem hk) q2⟩⟩) (by
   rintro x ⟨rfl, hn2⟩
   rw [List.take_length] at hn2
   refine ⟨.inl (), ?_, .inl ⟨rfl, hn2⟩⟩
   unfold emendtop_plain_b2
   exact if_neg (by simp))
  rw [g1, Option.bind_some]
  rcases g2 with ⟨rfl, g2⟩ | ⟨rfl, g2⟩
  ·rw [decide_eq_true ⟨hl, g2⟩]; rfl
  ·rw [decide_eq_false (fun h => g2 h.2)]
 ·rw [if_pos (decide_eq_true (by omega)), decide_eq_false (fun h => hl h.1)]
end Go.Sh
set_option linter.unusedVariables false
set_option linter.unusedSimpArgs false
namespace Go.Sh
open Go
theorem piecesF_ge : ∀ (l : List GTok) (f i : Nat), f ≤ i → ∀ p ∈ piecesF f i l, (f : Int) ≤ p.1
  | [], f, i, h, p, hp => by
    unfold piecesF at hp; split at hp
    · simp at hp; subst hp; exact Int.le_refl _
    · simp at hp
  | t :: r, f, i, h, p, hp => by
    unfold piecesF at hp; split at hp
    · rcases List.mem_cons.1 hp with rfl | hp
      · exact Int.le_refl _
      · have := piecesF_ge r (i + 1) (i + 1) (Nat.le_refl _) p hp; omega
    · exact piecesF_ge r f (i + 1) (by omega) p hp
theorem piecesF_app (t : GTok) (ht : t.kind = 7) (b : List GTok) : ∀ (a : List GTok) (f i : Nat), (∀ x ∈ a, x.kind ≠ 7) → piecesF f i (a ++ t :: b) = ((f : Int), ((i + a.length : Nat) : Int)) :: piecesF (i + a.length + 1) (i + a.length + 1) b
 | [], f, i, _ => by rw [List.nil_append, piecesF, if_pos ht]; rfl
 | x :: a, f, i, h => by
  rw [List.cons_append, piecesF, if_neg (h x (by simp)), piecesF_app t ht b a f (i + 1) (fun y hy => h y (by simp [hy]))]
  rw [List.length_cons, show i + 1 + a.length = i + (a.length + 1) by omega]
theorem piecesF_last : ∀ (a : List GTok) (f i : Nat), (∀ x ∈ a, x.kind ≠ 7) → piecesF f i a = if f < i + a.length then [((f : Int), ((i + a.length : Nat) : Int))] else []
 | [], f, i, _ => rfl
 | x :: a, f, i, h => by
  rw [piecesF, if_neg (h x (by simp)), piecesF_last a f (i + 1) (fun y hy => h y (by simp [hy])), List.length_cons, show i + 1 + a.length = i + (a.length + 1) by omega]
def linesAt (n : Nat) (l : List GTok) : List GLine := (piecesF n n l).map fun p => lineOf ((l.drop (p.1.toNat - n)).take (p.2.toNat - p.1.toNat)) p.1
theorem linesAt_nil (n : Nat) : linesAt n [] = [] := by unfold linesAt piecesF; rw [if_neg (Nat.lt_irrefl _)]; rfl
theorem linesAt_cut (n : Nat) (a : List GTok) (ha : ∀ x ∈ a, x.kind ≠ 7) (t : GTok) (ht : t.kind = 7) (b : List GTok) : linesAt n (a ++ t :: b) = lineOf a n :: linesAt (n + a.length + 1) b := by
 unfold linesAt
 rw [piecesF_app t ht b a n n ha, List.map_cons]
 congr 1
 ·simp only [Int.toNat_natCast, Nat.sub_self, List.drop_zero]
  rw [show n + a.length - n = a.length by omega, List.take_left' rfl]
 ·refine List.map_congr_left fun p hp => ?_
  have h1 := piecesF_ge b _ _ (Nat.le_refl _) p hp
  have e : (a ++ t :: b).drop (p.1.toNat - n) = b.drop (p.1.toNat - (n + a.length + 1)) := by
   rw [show p.1.toNat - n = (a ++ [t]).length + (p.1.toNat - (n + a.length + 1)) by simp only [List.length_append, List.length_singleton]; omega]
   rw [show a ++ t :: b = (a ++ [t]) ++ b by simp, List.drop_append]
   simp
  rw [e]
theorem linesAt_last (n : Nat) (a : List GTok) (ha : ∀ x ∈ a, x.kind ≠ 7) (h0 : a ≠ []) : linesAt n a = [lineOf a n] := by
 have hp : 0 < a.length := List.length_pos_iff.2 h0
 unfold linesAt
 rw [piecesF_last a n n ha, if_pos (by omega), List.map_singleton]
 simp only [Int.toNat_natCast, Nat.sub_self, List.drop_zero]
 rw [show n + a.length - n = a.length by omega, List.take_length]
end Go.Sh
set_option linter.unusedVariables false
set_option linter.unusedSimpArgs false
namespace Go.Sh
open Go
theorem tokens_no92 (f : Int) (s : List UInt8) (h : ∀ c ∈ s, c ≠ 92) : (tokens f s).map tk = (toks 0 false s).map ptk := by
 rw [tokens_tk, charsAt_no92 s 0 h]
theorem tokens_cut (f g g2 : Int) (a b : List UInt8) (h92 : ∀ c ∈ a ++ 10 :: b, c ≠ 92) (h47 : ∀ c ∈ a, c ≠ 47) : ∃ bl, (tokens f (a ++ 10 :: b)).map tk = (tokens g a).map tk ++ (7, [10], bl) :: (tokens g2 b).map tk := by
 rw [tokens_no92 f _ h92, tokens_no92 g a (fun c hc => h92 c (by simp [hc])), tokens_no92 g2 b (fun c hc => h92 c (by simp [hc]))]
 obtain ⟨i2, b2, e⟩ := toks_line b a.length 0 0 false a (Nat.le_refl _) h47
 refine ⟨b2, ?_⟩
 have h0 : blankLen (10 :: b) = 0 := by simp [blankLen, isWS]
 have hn : nextTok (10 :: b) = (7, 1) := by unfold nextTok; exact if_pos rfl
 rw [e, toks_tok (List.cons_ne_nil _ _) h0, hn, List.map_cons]
 congr 2
 exact toks_shift b.length _ _ _ _ (Nat.le_refl _)
end Go.Sh
set_option linter.unusedVariables false
set_option linter.unusedSimpArgs false
namespace Go.Sh
open Go
abbrev Key := Int × List UInt8 × Bool
def lk (x : GLine) : Int × List Key := (x.kind, x.toks.map tk)
def lineK : List Key → Int × List Key
 | [] => (1, [])
 | t :: r => if t.1 = 5 ∧ t.2.1 = [35] then (match r with
   | [] => (14, [])
   | u :: r2 => if u.1 = 1 ∧ kindOf u.2.1 ≠ 0 then (kindOf u.2.1, r2) else (15, u :: r2)) else (1, t :: r)
def cutK : List Key → List Key → List (List Key)
 | a, [] => if a = [] then [] else [a]
 | a, t :: r => if t.1 = 7 then a :: cutK [] r else cutK (a ++ [t]) r
theorem lk_lineOf (a : List GTok) (n : Int) : lk (lineOf a n) = lineK (a.map tk) := by
 match a with
 | [] => rfl
 | [t] =>
  by_cases h : t.kind = 5 ∧ t.text = [35]
  ·simp only [lineOf, if_pos h, List.map_cons, List.map_nil, lineK, tk]; rfl
  ·simp only [lineOf, if_neg h, List.map_cons, List.map_nil, lineK, tk]; rfl
 | t :: u :: r =>
  by_cases h : t.kind = 5 ∧ t.text = [35]
  ·by_cases h2 : u.kind = 1 ∧ kindOf u.text ≠ 0
   ·simp only [lineOf, if_pos h, if_pos h2, List.map_cons, lineK, tk]; rfl
   ·simp only [lineOf, if_pos h, if_neg h2, List.map_cons, lineK, tk]; rfl
  ·simp only [lineOf, if_neg h, List.map_cons, lineK, tk]; rfl
theorem linesAt_keys : ∀ (l a : List GTok) (n : Nat), (∀ x ∈ a, x.kind ≠ 7) → (linesAt n (a ++ l)).map lk = (cutK (a.map tk) (l.map tk)).map lineK
 | [], a, n, h => by
  rw [List.append_nil, List.map_nil, cutK]
  by_cases e : a = []
  ·subst e; rw [linesAt_nil]; rfl
  ·rw [linesAt_last n a h e, if_neg (by simpa using e), List.map_singleton, List.map_singleton, lk_lineOf]
 | t :: r, a, n, h => by
  rw [List.map_cons, cutK]
  by_cases e : t.kind = 7
  ·rw [linesAt_cut n a h t e r, if_pos (show (tk t).1 = 7 from e), List.map_cons, List.map_cons, lk_lineOf]
   exact congrArg _ (linesAt_keys r [] _ (by simp))
  ·rw [if_neg (show ¬ (tk t).1 = 7 from e), show a ++ t :: r = (a ++ [t]) ++ r by simp, linesAt_keys r (a ++ [t]) n (fun x hx => by
    rcases List.mem_append.1 hx with hx | hx
    ·exact h x hx
    ·rw [List.mem_singleton.1 hx]; exact e), List.map_append, List.map_singleton]
theorem lines_keys (l : List GTok) : (linesOf l).map lk = (cutK [] (l.map tk)).map lineK := linesAt_keys l [] 0 (by simp)
theorem cutK_app (t : Key) (ht : t.1 = 7) (b : List Key) : ∀ (c a : List Key), (∀ x ∈ c, x.1 ≠ 7) → cutK a (c ++ t :: b) = (a ++ c) :: cutK [] b
 | [], a, _ => by rw [List.nil_append, cutK, if_pos ht, List.append_nil]
 | x :: c, a, h => by rw [List.cons_append, cutK, if_neg (h x (by simp)), cutK_app t ht b c (a ++ [x]) (fun y hy => h y (by simp [hy]))]; simp
end Go.Sh
set_option linter.unusedVariables false
set_option linter.unusedSimpArgs false
namespace Go.Sh
open Go
theorem closed_keys {t : List UInt8} {k : List Key} (ht : t.length ≤ 2000000) (h : (pptok_Tokens 0 t).map (List.map tk) = some k) : (tokens 0 t).map tk = k := by
 rw [tokens_eq 0 t ht] at h
 exact Option.some.inj h
end Go.Sh
set_option linter.unusedVariables false
set_option linter.unusedSimpArgs false
namespace Go.Sh
open Go
end Go.Sh
set_option linter.unusedVariables false
set_option linter.unusedSimpArgs false
namespace Go.Sh
open Go
end Go.Sh
set_option linter.unusedVariables false
set_option linter.unusedSimpArgs false
namespace Go.Sh
open Go
end Go.Sh
set_option linter.unusedVariables false
set_option linter.unusedSimpArgs false
namespace Go.Sh
open Go
end Go.Sh
set_option linter.unusedVariables false
set_option linter.unusedSimpArgs false
namespace Go.Sh
open Go
def bareF : Bool → List GTok → List GExpand_token
 | _, [] => []
 | b, t :: r => if t.kind = 7 then bareF true r else GExpand_token.mk (GTok.mk t.kind t.text t.file_ t.from_ t.to (t.blank || b)) [] false false :: bareF false r
theorem bare_eq (l : List GTok) (h : l.length ≤ 1000000) : expand_bare l = some (bareF false l) := by
 unfold expand_bare
 obtain ⟨s, g1, g2⟩ := loopS_ix (f := expand_bare_b2 l) l.length (by omega) (fun k s => ∃ b out, s = (b, (k : Int), out) ∧ out.length ≤ k ∧ out ++ bareF b (l.drop k) = bareF false l) (fun z => z = bareF false l) (s0 := (false, (0 : Int), ([] : List GExpand_token))) ⟨false, [], rfl, Nat.le_refl _, rfl⟩ (by
  rintro k s hk ⟨b, out, rfl, ho, e⟩
  left
  unfold expand_bare_b2
  simp only
  rw [if_pos (decide_eq_true (by omega)), ix_at hk, Option.bind_some]
  rw [List.drop_eq_getElem_cons hk, bareF] at e
  by_cases h7 : l[k].kind = 7
  ·rw [if_pos (decide_eq_true h7), chkT (by omega)]
   rw [if_pos h7] at e
   exact ⟨_, rfl, true, out, by push_cast; rfl, by omega, e⟩
  ·rw [if_neg (by simpa using h7)]
   rw [if_neg h7] at e
   rw [orO_some, Option.bind_some, chkT (by omega), chkT (by omega)]
   refine ⟨_, rfl, false, _, by push_cast; rfl, ?_, ?_⟩
   ·rw [List.length_append]; simp only [List.length_cons, List.length_nil]; omega
   ·rw [List.append_assoc]; exact e) (by
  rintro s ⟨b, out, rfl, ho, e⟩
  refine ⟨out, ?_, by rw [List.drop_length] at e; simpa [bareF] using e⟩
  unfold expand_bare_b2
  exact if_neg (by simp))
 rw [g1, Option.bind_some, g2]
 rfl
end Go.Sh
set_option linter.unusedVariables false
set_option linter.unusedSimpArgs false
namespace Go.Sh
open Go
theorem xplain_eq (l : List GExpand_token) (h : l.length ≤ 1000000) : expand_plain l = some (l.map GExpand_token.tok) := by
 unfold expand_plain
 obtain ⟨s, g1, g2⟩ := loopS_ix (f := expand_plain_b2 l) l.length (by omega) (fun k s => s = ((k : Int), (l.take k).map GExpand_token.tok)) (fun z => z = l.map GExpand_token.tok) (s0 := ((0 : Int), ([] : List GTok))) rfl (by
  rintro k s hk rfl
  left
  unfold expand_plain_b2
  simp only
  rw [if_pos (decide_eq_true (by omega)), ix_at hk, Option.bind_some, chkT (by rw [List.length_map, List.length_take]; omega), chkT (by omega)]
  refine ⟨_, rfl, ?_⟩
  rw [List.take_add_one, List.getElem?_eq_getElem hk, List.map_append]
  rfl) (by
  rintro s rfl
  refine ⟨l.map GExpand_token.tok, ?_, rfl⟩
  rw [List.take_length]
  unfold expand_plain_b2
  exact if_neg (by simp))
 rw [g1, Option.bind_some, g2]
 rfl
end Go.Sh
set_option linter.unusedVariables false
set_option linter.unusedSimpArgs false
namespace Go.Sh
open Go
theorem hides_nil (y : GExpand_token) (n : List UInt8) (h : y.hide = []) : expand_token_hides y n = some false := by
 unfold expand_token_hides
 rw [h]
 show (slices_Contains_Lstring_string [] n).bind _ = _
 rw [show slices_Contains_Lstring_string [] n = some false by kernel_rfl]
 rfl
end Go.Sh
set_option linter.unusedVariables false
set_option linter.unusedSimpArgs false
namespace Go.Sh
open Go
end Go.Sh
set_option linter.unusedVariables false
set_option linter.unusedSimpArgs false
namespace Go.Sh
open Go
def Goes {σ ρ : Type} (f : σ → Option (Step σ ρ)) (n : Nat) (s : σ) (r : ρ) : Prop := ∀ m, iterS f (n + m) s = some r
theorem Goes.done {σ ρ : Type} {f : σ → Option (Step σ ρ)} {s : σ} {r : ρ} (h : f s = some (.done r)) : Goes f 1 s r := fun m => by
 rw [Nat.add_comm]; simp only [iterS, h]
theorem Goes.next {σ ρ : Type} {f : σ → Option (Step σ ρ)} {s s' : σ} {r : ρ} {n : Nat} (h : f s = some (.next s')) (g : Goes f n s' r) : Goes f (n + 1) s r := fun m => by
 rw [show n + 1 + m = (n + m) + 1 by omega]; simp only [iterS, h]; exact g m
theorem Goes.loop {σ ρ : Type} {f : σ → Option (Step σ ρ)} {s : σ} {r : ρ} {n : Nat} (g : Goes f n s r) (h : n ≤ 1000000) : loopS f s = some r := by
 unfold loopS
 have := g (18446744073709551616 - n)
 rwa [show n + (18446744073709551616 - n) = 18446744073709551616 by omega] at this
theorem item_br {R : UnitR} {f : GUnit_file} {L : List GItem} {i : Int} {run run' : GUnit_run} {e : Option GFault} {y : GItem} (hx : ix L i = some y) (hi : i < L.length) (h0 : 0 ≤ i) (h9 : i ≤ 1000000) (hb : 0 < y.branches.length) (hd : R.unit_file_branches f run y.branches = some (e, run')) :
  unit_file_items_b2 R f L (i, run) = if e.isSome = true then some (.done (Sum.inr (e, run'))) else some (.next (i + 1, run')) := by
 unfold unit_file_items_b2
 simp only
 rw [if_pos (decide_eq_true hi), hx, Option.bind_some, if_pos (decide_eq_true (by omega)), hd, Option.bind_some]
 unfold unit_file_items_j3
 simp only
 rw [chkT (by omega)]
theorem item_text {R : UnitR} {f : GUnit_file} {L : List GItem} {i : Nat} {run run' : GUnit_run} {e : Option GFault} (hi : i < L.length) (h9 : L.length ≤ 1000000)
  (hb : ∀ j, i ≤ j → j < L.length → ∃ y ln, ix L (j : Int) = some y ∧ y.branches = [] ∧ ix f.lines y.line_ = some ln ∧ ln.kind = 1)
  (hd : unit_file_text f run (L.drop i) = some (e, run')) :
  unit_file_items_b2 R f L ((i : Int), run) = if e.isSome = true then some (.done (Sum.inr (e, run'))) else some (.next ((L.length : Int), run')) := by
 obtain ⟨y, ln, hx, hy, hl, hk⟩ := hb i (Nat.le_refl _) hi
 unfold unit_file_items_b2
 simp only
 rw [if_pos (decide_eq_true (by omega)), hx, Option.bind_some, hy, if_neg (by simp), hl, Option.bind_some, if_neg (by rw [hk]; simp)]
 obtain ⟨q, g1, g2⟩ := loopS_rel (f := unit_file_items_b5 R f L) (fun z : Int => ∃ k : Nat, z = (k : Int) ∧ i ≤ k ∧ k < L.length) (fun z => L.length - z.toNat) (fun z : Int => z = (L.length : Int) - 1) (s := (i : Int)) ⟨i, rfl, Nat.le_refl _, hi⟩ (by omega) (by
  rintro z ⟨k, rfl, k1, k2⟩
  unfold unit_file_items_b5
  rw [chkT (by omega), chkT (by omega)]
  by_cases hk2 : k + 1 < L.length
  ·left
   obtain ⟨y2, ln2, hx2, hy2, hl2, hk2'⟩ := hb (k + 1) (by omega) hk2
   have hx2 : ix L ((k : Int) + 1) = some y2 := by rw [← hx2]; push_cast; rfl
   rw [hx2, Option.bind_some, andO_some, Option.bind_some, chkT (by omega), Option.bind_some, hl2, Option.bind_some, andO_some, Option.bind_some]
   rw [if_pos (by rw [hy2, hk2']; simp; omega), chkT (by omega)]
   exact ⟨_, rfl, ⟨k + 1, by push_cast; rfl, by omega, hk2⟩, by omega⟩
  ·right
   have af : ∀ x, andO false x = some false := fun _ => rfl
   rw [show decide ((k : Int) + 1 < (L.length : Int)) = false from decide_eq_false (by omega), af, Option.bind_some, af, Option.bind_some, if_neg (by simp)]
   exact ⟨_, rfl, by omega⟩)
 subst g2
 rw [g1, Option.bind_some]
 unfold unit_file_items_j4
 rw [chkT (by omega), chkT (by omega)]
 have ed : ((L.drop ((i : Int)).toNat).take (((L.length : Int) - 1 + 1).toNat - ((i : Int)).toNat)) = L.drop i := by
  rw [Int.toNat_natCast]
  exact List.take_of_length_le (by rw [List.length_drop]; omega)
 rw [ed, hd, Option.bind_some]
 unfold unit_file_items_j3
 simp only
 rw [chkT (by omega), show (L.length : Int) - 1 + 1 = (L.length : Int) by omega]
theorem items_end {R : UnitR} {f : GUnit_file} {L : List GItem} {run : GUnit_run} : unit_file_items_b2 R f L ((L.length : Int), run) = some (.done (.inl run)) := by
 unfold unit_file_items_b2
 exact if_neg (by simp)
theorem items_of {R : UnitR} {f : GUnit_file} {L : List GItem} {run : GUnit_run} {n : Nat} {o : Sum GUnit_run (Option GFault × GUnit_run)} (g : Goes (unit_file_items_b2 R f L) n ((0 : Int), run) o) (h : n ≤ 1000000) : unit_file_itemsF R f run L = some (match o with | .inl r => (none, r) | .inr x => x) := by
 unfold unit_file_itemsF
 rw [g.loop h, Option.bind_some]
 cases o <;> rfl
theorem file_step {R : UnitR} {run : GUnit_run} {number deep : Int} {y : GFile} {toks : List GTok} {ls : List GLine} {items : List GItem} {x : Option GFault × GUnit_run} (hx : ix run.files number = some y) (ht : pptok_Tokens number y.text = some toks) (hl : direct_Lines toks = some ls) (hp : cond_Parse ls = some (items, 0, 0)) (hR : R.unit_file_items (GUnit_file.mk number ls deep) run items = some x) : unit_run_fileF R run number deep = some x := by
 unfold unit_run_fileF
 rw [hx, Option.bind_some, ht, Option.bind_some, hl, Option.bind_some, hp, Option.bind_some, if_neg (by simp), hR]
 rfl
def runOut (run : GUnit_run) : Option GFault → List GTok × GFault
 | none => (run.told, GFault.mk 0 0 0)
 | some fa => ([], fa)
theorem run_of {files : List GFile} {main : List UInt8} {k : Int} {e : Option GFault} {run : GUnit_run} (hf : unit_Find files main = some k) (hk : 0 ≤ k) (h : unit_run_file (GUnit_run.mk files [] [] 0) k 1 = some (e, run)) : unit_Run files main [] = some (runOut run e) := by
 unfold unit_Run
 rw [show unit_First [] = some ([], 0) by kernel_rfl, Option.bind_some, hf, Option.bind_some, if_neg (by simp), if_neg (by simp; omega)]
 rw [(Goes.done (f := unit_Run_b2 ([], 0)) (s := ((0 : Int), GUnit_run.mk files [] [] 0)) (r := GUnit_run.mk files [] [] 0) rfl).loop (by omega), Option.bind_some]
 unfold unit_Run_j1
 rw [h, Option.bind_some]
 cases e <;> rfl
theorem text_one {f : GUnit_file} {run : GUnit_run} {it : GItem} {ln : GLine} (hl : ix f.lines it.line_ = some ln) (hs : ln.toks.length ≤ 1000000) : unit_file_text f run [it] = unit_file_text_j1 f run [it] ln.toks := by
 unfold unit_file_text
 have s1 : unit_file_text_b2 f [it] ((0 : Int), ([] : List GTok)) = some (.next ((1 : Int), ln.toks)) := by
  unfold unit_file_text_b2
  simp only
  rw [if_pos (by simp), show ix [it] 0 = some it from rfl, Option.bind_some, if_neg (by simp)]
  unfold unit_file_text_j3
  rw [hl, Option.bind_some, chkT (by simp only [List.length_nil]; omega), chkT (by omega)]
  rfl
 have s2 : unit_file_text_b2 f [it] ((1 : Int), ln.toks) = some (.done ln.toks) := rfl
 rw [((Goes.done s2).next s1).loop (by omega), Option.bind_some]
theorem branch_hit {R : UnitR} {f : GUnit_file} {run : GUnit_run} {b : GBranch} {bs : List GBranch} {ln : GLine} {x : Option GFault × GUnit_run} (hl : ix f.lines b.line_ = some ln) (hh : unit_file_holds f run ln = some (true, 0)) (hR : R.unit_file_items f run (List.map upL b.items) = some x) : unit_file_branchesF R f run (b :: bs) = some x := by
 unfold unit_file_branchesF
 have s1 : unit_file_branches_b2 R f (b :: bs) ((0 : Int), run) = some (.done (.inr x)) := by
  unfold unit_file_branches_b2
  simp only
  rw [if_pos (by simp), show ix (b :: bs) 0 = some b from rfl, Option.bind_some, hl, Option.bind_some, hh, Option.bind_some, if_neg (by simp), if_pos rfl, hR]
  rfl
 rw [(Goes.done s1).loop (by omega)]
 rfl
theorem branch_wrong {R : UnitR} {f : GUnit_file} {run : GUnit_run} {b : GBranch} {bs : List GBranch} {ln : GLine} {v : Bool} {e : Int} (hl : ix f.lines b.line_ = some ln) (hh : unit_file_holds f run ln = some (v, e)) (he : e ≠ 0) : unit_file_branchesF R f run (b :: bs) = some (some (GFault.mk f.number b.line_ e), run) := by
 unfold unit_file_branchesF
 have s1 : unit_file_branches_b2 R f (b :: bs) ((0 : Int), run) = some (.done (.inr (some (GFault.mk f.number b.line_ e), run))) := by
  unfold unit_file_branches_b2
  simp only
  rw [if_pos (by simp), show ix (b :: bs) 0 = some b from rfl, Option.bind_some, hl, Option.bind_some, hh, Option.bind_some, if_pos (by simpa using he)]
  unfold unit_file_wrong
  rw [if_neg (by simpa using he)]
  rfl
 rw [(Goes.done s1).loop (by omega)]
 rfl
theorem branch_two {R : UnitR} {f : GUnit_file} {run : GUnit_run} {b b2 : GBranch} {ln ln2 : GLine} {x : Option GFault × GUnit_run} (hl : ix f.lines b.line_ = some ln) (hh : unit_file_holds f run ln = some (false, 0)) (hl2 : ix f.lines b2.line_ = some ln2) (hh2 : unit_file_holds f run ln2 = some (true, 0)) (hR : R.unit_file_items f run (List.map upL b2.items) = some x) : unit_file_branchesF R f run [b, b2] = some x := by
 unfold unit_file_branchesF
 have s1 : unit_file_branches_b2 R f [b, b2] ((0 : Int), run) = some (.next ((1 : Int), run)) := by
  unfold unit_file_branches_b2
  simp only
  rw [if_pos (by simp), show ix [b, b2] 0 = some b from rfl, Option.bind_some, hl, Option.bind_some, hh, Option.bind_some, if_neg (by simp), if_neg (by simp), chkT (by omega)]
  rfl
 have s2 : unit_file_branches_b2 R f [b, b2] ((1 : Int), run) = some (.done (.inr x)) := by
  unfold unit_file_branches_b2
  simp only
  rw [if_pos (by simp), show ix [b, b2] 1 = some b2 from rfl, Option.bind_some, hl2, Option.bind_some, hh2, Option.bind_some, if_neg (by simp), if_pos rfl, hR]
  rfl
 rw [((Goes.done s2).next s1).loop (by omega)]
 rfl
end Go.Sh
set_option linter.unusedVariables false
set_option linter.unusedSimpArgs false
namespace Go.Sh
open Go
theorem quoLen_no (q : UInt8) : ∀ u : List UInt8, u.head? ≠ some q → quoLen q u = 0
 | [], _ => rfl
 | c :: r, h => by rw [quoLen, if_neg (fun e => h (by rw [e]; rfl))]
theorem head_mem {c : UInt8} : ∀ {u : List UInt8}, u.head? = some c → c ∈ u
  | [], h => by cases h
  | d :: r, h => by simp at h; rw [h]; simp
theorem nextTok_kind (u : List UInt8) (h : u.head? ≠ some 10 ∧ u.head? ≠ some 39) : (nextTok u).1 ≠ 7 ∧ (nextTok u).1 ≠ 3 := by
 unfold nextTok
 rw [if_neg h.1, quoLen_no 39 u h.2]
 split
 ·exact ⟨by show (1 : Int) ≠ 7; omega, by show (1 : Int) ≠ 3; omega⟩
 split
 ·exact ⟨by show (2 : Int) ≠ 7; omega, by show (2 : Int) ≠ 3; omega⟩
 split
 ·exact ⟨by show (4 : Int) ≠ 7; omega, by show (4 : Int) ≠ 3; omega⟩
 rw [if_neg (by omega)]
 split
 ·exact ⟨by show (5 : Int) ≠ 7; omega, by show (5 : Int) ≠ 3; omega⟩
 ·exact ⟨by show (6 : Int) ≠ 7; omega, by show (6 : Int) ≠ 3; omega⟩
theorem toks_kinds (n : Nat) : ∀ (i : Nat) (b : Bool) (u : List UInt8), u.length ≤ n → (∀ c ∈ u, c ≠ 10 ∧ c ≠ 39) → ∀ p ∈ toks i b u, p.kind ≠ 7 ∧ p.kind ≠ 3 := by
  induction n with
  | zero => intro i b u hu _ p hp; have : u = [] := List.length_eq_zero_iff.1 (by omega); subst this; rw [toks_nil] at hp; cases hp
  | succ n ih =>
    intro i b u hu h p hp
    by_cases h0 : u = []
    · subst h0; rw [toks_nil] at hp; cases hp
    have hl : 0 < u.length := List.length_pos_iff.2 h0
    by_cases hb : 0 < blankLen u
    · rw [toks_blank hb] at hp
      exact ih _ _ _ (by rw [List.length_drop]; omega) (fun c hc => h c (List.mem_of_mem_drop hc)) p hp
    · rw [toks_tok h0 (by omega)] at hp
      rcases List.mem_cons.1 hp with rfl | hp
      · exact nextTok_kind u ⟨fun e => (h 10 (head_mem e)).1 rfl, fun e => (h 39 (head_mem e)).2 rfl⟩
      · have := nextTok_pos u
        exact ih _ _ _ (by rw [List.length_drop]; omega) (fun c hc => h c (List.mem_of_mem_drop hc)) p hp
def pkt (p : PT) : Int × List UInt8 := (p.kind, p.text)
theorem toks_blanks (n : Nat) : ∀ (i j : Nat) (b b' : Bool) (u : List UInt8), u.length ≤ n → (toks i b u).map pkt = (toks j b' u).map pkt := by
 induction n with
 | zero =>
  intro i j b b' u h
  have : u = [] := List.length_eq_zero_iff.1 (by omega)
  subst this; rw [toks_nil, toks_nil]
 | succ n ih =>
  intro i j b b' u h
  by_cases hu : u = []
  ·subst hu; rw [toks_nil, toks_nil]
  by_cases hb : 0 < blankLen u
  ·rw [toks_blank hb, toks_blank hb]
   exact ih _ _ _ _ _ (by rw [List.length_drop]; omega)
  ·have := nextTok_pos u
   rw [toks_tok hu (by omega), toks_tok hu (by omega), List.map_cons, List.map_cons, ih _ (j + (nextTok u).2) _ false _ (by rw [List.length_drop]; omega)]; rfl
theorem parse_ifelse (l0 l1 l2 l3 l4 : GLine) (h0 : l0.kind = 2) (h1 : l1.kind = 1) (h2 : l2.kind = 6) (h3 : l3.kind = 1) (h4 : l4.kind = 7) :
  cond_Parse [l0, l1, l2, l3, l4] = some ([{ line_ := 0, end_ := 4, branches := [{ line_ := 0, items := [{ line_ := 1, end_ := 1 }] }, { line_ := 2, items := [{ line_ := 3, end_ := 3 }] }] }], 0, 0) := by
 unfold cond_Parse
 rw [chkT (by simp only [List.length_cons, List.length_nil]; omega)]
 simp [parseFrom, parseStep, h0, h1, h2, h3, h4, endB]
theorem bareF_all : ∀ (l : List GTok), (∀ t ∈ l, t.kind ≠ 7) → bareF false l = l.map fun t => GExpand_token.mk t [] false false
 | [], _ => rfl
 | t :: r, h => by
  rw [bareF, if_neg (h t (by simp)), bareF_all r (fun x hx => h x (by simp [hx])), Bool.or_false]
  rfl
theorem oneline_keys {l : GLine} {k : Int} {K : List Key} (h : lk l = (k, K)) : l.kind = k ∧ l.toks.map tk = K := by
 simp only [lk, Prod.mk.injEq] at h; exact h
end Go.Sh
set_option linter.unusedVariables false
set_option linter.unusedSimpArgs false
namespace Go.Sh
open Go
end Go.Sh
set_option linter.unusedVariables false
set_option linter.unusedSimpArgs false
namespace Go.Sh
open Go
theorem text_single {f : GUnit_file} {run : GUnit_run} {l : List GItem} {ns : List (List UInt8)} {ms : List GMacro} {toks : List GTok} {t : GTok} {y : GItem} (hn : unit_run_names run = some (ns, ms)) (he : expand_Expand ms toks = some ([t], 0)) (h0 : run.told = []) (hy : ix l 0 = some y) :
  unit_file_text_j1 f run l toks = some (none, GUnit_run.mk run.files run.macros [GTok.mk t.kind t.text t.file_ t.from_ t.to true] run.includes) := by
 unfold unit_file_text_j1
 rw [hn, Option.bind_some, he, Option.bind_some, h0]
 simp only [List.length_nil, List.length_cons]
 rw [chkT (by omega), andO_some, Option.bind_some, if_neg (by simp)]
 unfold unit_file_text_j4
 simp only
 rw [if_pos (by simp), show ix [t] 0 = some t from rfl, Option.bind_some]
 unfold unit_file_text_j5
 rw [h0, chkT (by simp), hy, Option.bind_some, show unit_file_wrong f y.line_ 0 = some none from rfl, Option.bind_some]
 rfl
theorem cons_tok {l : List GTok} {k : Int} {t : List UInt8} {b : Bool} {K : List Key} (h : l.map tk = (k, t, b) :: K) : ∃ x p q r, l = GTok.mk k t x p q b :: r ∧ r.map tk = K := by
 obtain ⟨y, r, rfl, e, e2⟩ := List.map_eq_cons_iff.1 h
 obtain ⟨k', t', x, p, q, b'⟩ := y
 simp only [tk, Prod.mk.injEq] at e
 obtain ⟨rfl, rfl, rfl⟩ := e
 exact ⟨x, p, q, r, rfl, e2⟩
end Go.Sh
set_option linter.unusedVariables false
set_option linter.unusedSimpArgs false
namespace Go.Sh
open Go
theorem iterS_two {σ σ' ρ ρ' : Type} {f : σ → Option (Step σ ρ)} {f' : σ' → Option (Step σ' ρ')} (Inv : σ → σ' → Prop) (μ : σ → Nat) (R : ρ → ρ' → Prop)
  (step : ∀ s s', Inv s s' → (∃ t t', f s = some (.next t) ∧ f' s' = some (.next t') ∧ Inv t t' ∧ μ t < μ s) ∨ ∃ r r', f s = some (.done r) ∧ f' s' = some (.done r') ∧ R r r') : ∀ (n : Nat) (s : σ) (s' : σ'), μ s < n → Inv s s' → ∃ r r', iterS f n s = some r ∧ iterS f' n s' = some r' ∧ R r r'
 | 0, s, s', h, _ => absurd h (Nat.not_lt_zero _)
 | n + 1, s, s', h, hi => by
  unfold iterS
  rcases step s s' hi with ⟨t, t', h1, h2, h3, h4⟩ | ⟨r, r', h1, h2, h3⟩
  ·rw [h1, h2]
   simp only
   exact iterS_two Inv μ R step n t t' (by omega) h3
  ·rw [h1, h2]; exact ⟨r, r', rfl, rfl, h3⟩
theorem loopS_two {σ σ' ρ ρ' : Type} {f : σ → Option (Step σ ρ)} {f' : σ' → Option (Step σ' ρ')} (Inv : σ → σ' → Prop) (μ : σ → Nat) (R : ρ → ρ' → Prop) {s : σ} {s' : σ'} (hi : Inv s s') (hm : μ s < 18446744073709551616)
  (step : ∀ s s', Inv s s' → (∃ t t', f s = some (.next t) ∧ f' s' = some (.next t') ∧ Inv t t' ∧ μ t < μ s) ∨ ∃ r r', f s = some (.done r) ∧ f' s' = some (.done r') ∧ R r r') : ∃ r r', loopS f s = some r ∧ loopS f' s' = some r' ∧ R r r' := iterS_two Inv μ R step _ s s' hm hi
def kt (t : GTok) : Int × List UInt8 := (t.kind, t.text)
def Good (t : GTok) : Prop := t.kind ≠ 7 ∧ t.kind ≠ 3 ∧ t.text.length ≤ 1000
theorem good48 (a b c : Int) (d : Bool) : Good (GTok.mk 2 [48] a b c d) := ⟨by simp, by simp, by simp⟩
theorem kt_good {x y : GTok} (h : kt x = kt y) (g : Good x) : Good y := by
 simp only [kt, Prod.mk.injEq] at h
 unfold Good at *
 rw [← h.1, ← h.2]; exact g
theorem kt_len {l l' : List GTok} (h : l.map kt = l'.map kt) : l.length = l'.length := by have := congrArg List.length h; simpa using this
theorem kt_at {l l' : List GTok} (h : l.map kt = l'.map kt) (k : Nat) (hk : k < l.length) : ∃ hk' : k < l'.length, kt l[k] = kt (l'[k]'hk') := by
 have hl := kt_len h
 refine ⟨by omega, ?_⟩
 have : (l.map kt)[k]? = (l'.map kt)[k]? := by rw [h]
 rw [List.getElem?_map, List.getElem?_map, List.getElem?_eq_getElem hk, List.getElem?_eq_getElem (by omega)] at this
 simpa using this
theorem kt_all {l l' : List GTok} (h : l.map kt = l'.map kt) (g : ∀ t ∈ l, Good t) : ∀ t ∈ l', Good t := by
 intro t ht
 have : kt t ∈ l.map kt := by rw [h]; exact List.mem_map_of_mem ht
 obtain ⟨x, hx, e⟩ := List.mem_map.1 this
 exact kt_good e (g x hx)
def c1K (K : List (Int × List UInt8)) (i : Nat) (s : List UInt8) : Bool := match K[i]? with
 | none => false
 | some k => decide (k.1 = 5) && decide (k.2 = s)
def c2K (K : List (Int × List UInt8)) (i : Nat) : Bool := match K[i]? with
 | none => false
 | some k => decide (k.1 = 1)
theorem c1_eq (l : List GTok) (i : Nat) (s : List UInt8) : ifexpr_Defined_c1 (i : Int) s l = some (c1K (l.map kt) i s) := by
 unfold ifexpr_Defined_c1 c1K
 have ao : ∀ x, andO false x = some false := fun _ => rfl
 rw [List.getElem?_map]
 by_cases h : i < l.length
 ·rw [ix_at h, Option.bind_some, andO_some, Option.bind_some, Option.bind_some, andO_some, Option.bind_some, List.getElem?_eq_getElem h, decide_eq_true (show (i : Int) < (l.length : Int) by omega)]
  rfl
 ·rw [decide_eq_false (show ¬ (i : Int) < (l.length : Int) by omega), ao, Option.bind_some, ao, Option.bind_some, List.getElem?_eq_none (by omega)]
  rfl
theorem c2_eq (l : List GTok) (i : Nat) : ifexpr_Defined_c2 (i : Int) l = some (c2K (l.map kt) i) := by
 unfold ifexpr_Defined_c2 c2K
 have ao : ∀ x, andO false x = some false := fun _ => rfl
 rw [List.getElem?_map]
 by_cases h : i < l.length
 ·rw [ix_at h, Option.bind_some, andO_some, Option.bind_some, List.getElem?_eq_getElem h, decide_eq_true (show (i : Int) < (l.length : Int) by omega)]
  rfl
 ·rw [decide_eq_false (show ¬ (i : Int) < (l.length : Int) by omega), ao, Option.bind_some, List.getElem?_eq_none (by omega)]
  rfl
theorem c2K_lt {l : List GTok} {i : Nat} (h : c2K (l.map kt) i = true) : i < l.length := by
  unfold c2K at h
  rw [List.getElem?_map] at h
  by_cases hl : i < l.length
  · exact hl
  · rw [List.getElem?_eq_none (by omega)] at h; cases h
theorem contains_nil (t : List UInt8) : slices_Contains_Lstring_string [] t = some false := by kernel_rfl
theorem j3_eq (l out : List GTok) (y : GTok) (a b : Nat) (hl : l.length ≤ 100000) (ho : out.length ≤ 100000) (hb : b ≤ 200000) : ifexpr_Defined_j3 l [] out y ((a : Int), (b : Int)) =
  if (!(c2K (l.map kt) a) || (!decide (a = b) && !(c1K (l.map kt) b [41]))) = true then some (.done (Sum.inr ([], 90))) else some (.next (((b + 1 : Nat) : Int), out ++ [GTok.mk 2 [48] y.file_ y.from_ y.to y.blank])) := by
 unfold ifexpr_Defined_j3
 simp only
 rw [c2_eq, Option.bind_some, c1_eq, Option.bind_some, andO_some, Option.bind_some, orO_some, Option.bind_some]
 have e : (decide ((a : Int) = (b : Int))) = decide (a = b) := by
  by_cases h : a = b
  ·rw [decide_eq_true h, decide_eq_true (by omega)]
  ·rw [decide_eq_false h, decide_eq_false (by omega)]
 rw [e]
 by_cases hc : (!(c2K (l.map kt) a) || (!decide (a = b) && !(c1K (l.map kt) b [41]))) = true
 ·rw [if_pos hc, if_pos hc]
 ·rw [if_neg hc, if_neg hc]
  have h2 : c2K (l.map kt) a = true := by
   cases h : c2K (l.map kt) a
   ·rw [h] at hc; simp at hc
   ·rfl
  rw [ix_at (c2K_lt h2), Option.bind_some, contains_nil, Option.bind_some, if_neg (by simp)]
  unfold ifexpr_Defined_j4
  rw [chkT (by omega), chkT (by omega)]
  push_cast
  rfl
def DefR (n : Nat) (r r' : Sum (List GTok) (List GTok × Int)) : Prop :=
 (∃ o o', r = .inl o ∧ r' = .inl o' ∧ o.map kt = o'.map kt ∧ o.length ≤ n ∧ ∀ t ∈ o, Good t) ∨ (r = .inr ([], 90) ∧ r' = .inr ([], 90))
theorem defined_two (l l' : List GTok) (h : l.map kt = l'.map kt) (hl : l.length ≤ 1000) (g : ∀ t ∈ l, Good t) : ∃ o o' e, ifexpr_Defined l [] = some (o, e) ∧ ifexpr_Defined l' [] = some (o', e) ∧ o.map kt = o'.map kt ∧ o.length ≤ l.length ∧ ∀ t ∈ o, Good t := by
 have hll := kt_len h
 unfold ifexpr_Defined
 obtain ⟨r, r', g1, g2, g3⟩ := loopS_two (f := ifexpr_Defined_b2 l []) (f' := ifexpr_Defined_b2 l' []) (fun s s' => ∃ (k : Nat) (o o' : List GTok), s = ((k : Int), o) ∧ s' = ((k : Int), o') ∧ o.map kt = o'.map kt ∧ o.length ≤ k ∧ o.length ≤ l.length ∧ k ≤ l.length + 4 ∧ ∀ t ∈ o, Good t) (fun s => l.length + 10 - s.1.toNat) (DefR l.length) (s := ((0 : Int), ([] : List GTok))) (s' := ((0 : Int), ([] : List GTok))) ⟨0, [], [], rfl, rfl, rfl, Nat.le_refl _, by simp, by omega, by simp⟩ (by simp only; omega) (by
  rintro s s' ⟨k, o, o', rfl, rfl, e, h1, h2, h3, h4⟩
  have hol := kt_len e
  by_cases hk : k < l.length
  ·obtain ⟨hk', ek⟩ := kt_at h k hk
   have ek2 : l[k].kind = l'[k].kind ∧ l[k].text = l'[k].text := Prod.mk.inj ek
   unfold ifexpr_Defined_b2
   simp only
   rw [if_pos (decide_eq_true (by omega)), if_pos (decide_eq_true (by omega)), ix_at hk, ix_at hk', Option.bind_some, Option.bind_some, orO_some, orO_some, Option.bind_some, Option.bind_some, ← ek2.1, ← ek2.2]
   by_cases hc : (!decide (l[k].kind = 1) || !decide (l[k].text = [100, 101, 102, 105, 110, 101, 100])) = true
   ·rw [if_pos hc, if_pos hc, chkT (by omega), chkT (by omega), chkT (by omega), chkT (by omega)]
    left
    refine ⟨_, _, rfl, rfl, ⟨k + 1, _, _, by push_cast; rfl, by push_cast; rfl, ?_, ?_, ?_, by omega, ?_⟩, by simp only; omega⟩
    ·rw [List.map_append, List.map_append, e, List.map_singleton, List.map_singleton, ek]
    ·rw [List.length_append]; simp only [List.length_cons, List.length_nil]; omega
    ·rw [List.length_append]; simp only [List.length_cons, List.length_nil]; omega
    ·intro t ht
     rcases List.mem_append.1 ht with ht | ht
     ·exact h4 t ht
     ·rw [List.mem_singleton.1 ht]; exact g _ (List.getElem_mem hk)
   ·rw [if_neg hc, if_neg hc]
    have en : ∀ m : Nat, (k : Int) + (m : Int) = ((k + m : Nat) : Int) := fun m => by push_cast; rfl
    have e1 : (k : Int) + 1 = ((k + 1 : Nat) : Int) := rfl
    have e2 : (k : Int) + 2 = ((k + 2 : Nat) : Int) := rfl
    have e3 : (k : Int) + 3 = ((k + 3 : Nat) : Int) := rfl
    rw [e1, c1_eq, c1_eq, Option.bind_some, Option.bind_some, ← h]
    have main : ∀ a b : Nat, k < b → b ≤ k + 3 →
      (∃ t t', ifexpr_Defined_j3 l [] o l[k] ((a : Int), (b : Int)) = some (.next t) ∧ ifexpr_Defined_j3 l' [] o' l'[k] ((a : Int), (b : Int)) = some (.next t') ∧ (∃ (k : Nat) (o o' : List GTok), t = ((k : Int), o) ∧ t' = ((k : Int), o') ∧ o.map kt = o'.map kt ∧ o.length ≤ k ∧ o.length ≤ l.length ∧ k ≤ l.length + 4 ∧ ∀ t ∈ o, Good t) ∧ l.length + 10 - t.1.toNat < l.length + 10 - ((k : Int)).toNat) ∨
      ∃ r r', ifexpr_Defined_j3 l [] o l[k] ((a : Int), (b : Int)) = some (.done r) ∧ ifexpr_Defined_j3 l' [] o' l'[k] ((a : Int), (b : Int)) = some (.done r') ∧ DefR l.length r r' := by
     intro a b hb1 hb2
     rw [j3_eq l o _ a b (by omega) (by omega) (by omega), j3_eq l' o' _ a b (by omega) (by omega) (by omega), ← h]
     by_cases hc : (!(c2K (l.map kt) a) || (!decide (a = b) && !(c1K (l.map kt) b [41]))) = true
     ·rw [if_pos hc, if_pos hc]
      right
      exact ⟨_, _, rfl, rfl, .inr ⟨rfl, rfl⟩⟩
     ·rw [if_neg hc, if_neg hc]
      left
      refine ⟨_, _, rfl, rfl, ⟨b + 1, _, _, rfl, rfl, ?_, ?_, ?_, by omega, ?_⟩, by simp only; omega⟩
      ·rw [List.map_append, List.map_append, e]; rfl
      ·rw [List.length_append]; simp only [List.length_cons, List.length_nil]; omega
      ·rw [List.length_append]; simp only [List.length_cons, List.length_nil]; omega
      ·intro t ht
       rcases List.mem_append.1 ht with ht | ht
       ·exact h4 t ht
       ·rw [List.mem_singleton.1 ht]; exact good48 _ _ _ _
    by_cases hp : c1K (l.map kt) (k + 1) [40] = true
    ·rw [if_pos hp, if_pos hp, e2, e3]
     repeat (rw [chkT (by omega)])
     exact main (k + 2) (k + 3) (by omega) (by omega)
    ·rw [if_neg hp, if_neg hp]
     repeat (rw [chkT (by omega)])
     exact main (k + 1) (k + 1) (by omega) (by omega)
  ·right
   refine ⟨.inl o, .inl o', ?_, ?_, .inl ⟨o, o', rfl, rfl, e, h2, h4⟩⟩
   ·unfold ifexpr_Defined_b2
    exact if_neg (by simp; omega)
   ·unfold ifexpr_Defined_b2
    exact if_neg (by simp; omega))
 rw [g1, g2, Option.bind_some, Option.bind_some]
 rcases g3 with ⟨o, o', rfl, rfl, e, h2, h4⟩ | ⟨rfl, rfl⟩
 ·exact ⟨o, o', 0, rfl, rfl, e, h2, h4⟩
 ·exact ⟨[], [], 90, rfl, rfl, rfl, by simp, by simp⟩
theorem step_keep0 (y : GExpand_token) (r out : List GExpand_token) (s : Int) (hy : y.hide = []) (ho : out.length < 4000) (hr : r.length ≤ 1000000) :
  expand_work_expand_b2 (y :: r, out, GExpand_work.mk [] s) = some (.next (r, out ++ [y], GExpand_work.mk [] s)) := by
 unfold expand_work_expand_b2
 simp only
 rw [if_pos (by simp), show ix (y :: r) 0 = some y from rfl, Option.bind_some, hides_nil y _ hy, Option.bind_some, orO_some, Option.bind_some, orO_some, Option.bind_some]
 have e : ((!decide (y.tok.kind = 1)) || false || !(getM y.tok.text ([] : List (List UInt8 × GMacro))).isSome) = true := by simp [getM]
 rw [e]
 have ot : ∀ x, orO true x = some true := fun _ => rfl
 rw [ot, Option.bind_some, if_pos rfl, chkT (by omega), if_neg (by simp; omega), chkT (by simp only [List.length_cons]; omega)]
 rfl
theorem expand_none (l : List GExpand_token) (hl : l.length ≤ 900) (hh : ∀ x ∈ l, x.hide = []) : expand_work_expand (GExpand_work.mk [] 0) l = some ((l, 0), GExpand_work.mk [] 0) := by
 unfold expand_work_expand
 obtain ⟨o, g1, g2⟩ := loopS_rel (f := expand_work_expand_b2) (fun x : List GExpand_token × List GExpand_token × GExpand_work => x.2.2 = GExpand_work.mk [] 0 ∧ x.2.1 ++ x.1 = l) (fun x => x.1.length) (fun r => r = .inl (l, GExpand_work.mk [] 0)) (s := (l, ([] : List GExpand_token), GExpand_work.mk [] 0)) ⟨rfl, rfl⟩ (by simp only; omega) (by
  rintro ⟨c, out, w⟩ ⟨e, e2⟩
  simp only at e e2
  subst e
  match c, e2 with
  | [], e2 =>
   right
   refine ⟨.inl (out, GExpand_work.mk [] 0), rfl, ?_⟩
   rw [List.append_nil] at e2; rw [e2]
  | y :: r, e2 =>
   left
   have hlen := congrArg List.length e2
   simp only [List.length_append, List.length_cons] at hlen
   exact ⟨_, step_keep0 y r out 0 (hh y (by rw [← e2]; simp)) (by omega) (by omega), ⟨rfl, by simp only; rw [← e2]; simp⟩, by simp only [List.length_cons]; omega⟩)
 rw [g1, Option.bind_some, g2]
 rfl
theorem Expand_nil (l : List GTok) (hl : l.length ≤ 900) (g : ∀ t ∈ l, t.kind ≠ 7) : expand_Expand [] l = some (l, 0) := by
 have e : expand_Expand [] l = expand_Expand_k2 l (GExpand_work.mk [] 0) := by kernel_rfl
 rw [e]
 unfold expand_Expand_k2
 rw [bare_eq l (by omega), Option.bind_some, bareF_all l g, expand_none _ (by rw [List.length_map]; exact hl) (by
  intro x hx
  obtain ⟨t, _, rfl⟩ := List.mem_map.1 hx
  rfl), Option.bind_some, xplain_eq _ (by rw [List.length_map]; omega), Option.bind_some, List.map_map, show (GExpand_token.tok ∘ fun t => GExpand_token.mk t [] false false) = id from rfl, List.map_id]
end Go.Sh
set_option linter.unusedVariables false
set_option linter.unusedSimpArgs false
namespace Go.Sh
open Go
theorem digit_all : (List.range 256).all (fun n => match ifexpr_digit (UInt8.ofNat n) with | some d => decide (0 ≤ d ∧ d ≤ 16) | none => false) = true := by kernel_rfl
theorem digit_tot (c : UInt8) : ∃ d, ifexpr_digit c = some d ∧ 0 ≤ d ∧ d ≤ 16 := by
  have h := List.all_eq_true.1 digit_all c.toNat (List.mem_range.2 c.toNat_lt)
  rw [UInt8.ofNat_toNat] at h
  cases e : ifexpr_digit c with
  | none => rw [e] at h; cases h
  | some d => rw [e] at h; exact ⟨d, rfl, of_decide_eq_true h⟩
theorem suffix_l0_at (k : Nat) (hk : k < 5) : ∃ y, ix ifexpr_suffix_l0 (k : Int) = some y ∧ y.length ≤ 10 := by
 match k, hk with
 | 0, _ => exact ⟨_, rfl, by decide⟩
 | 1, _ => exact ⟨_, rfl, by decide⟩
 | 2, _ => exact ⟨_, rfl, by decide⟩
 | 3, _ => exact ⟨_, rfl, by decide⟩
 | 4, _ => exact ⟨_, rfl, by decide⟩
theorem suffix_l1_at (k : Nat) (hk : k < 3) : ∃ y, ix ifexpr_suffix_l1 (k : Int) = some y ∧ y.length ≤ 10 := by
 match k, hk with
 | 0, _ => exact ⟨_, rfl, by decide⟩
 | 1, _ => exact ⟨_, rfl, by decide⟩
 | 2, _ => exact ⟨_, rfl, by decide⟩
theorem suffix_in (s y : List UInt8) (hy : y.length ≤ 10) : ∃ r, loopS (ifexpr_suffix_b4 s y) (0 : Int) = some r := by
 obtain ⟨r, g1, _⟩ := loopS_ix (f := ifexpr_suffix_b4 s y) 3 (by omega) (fun k x => x = (k : Int)) (fun _ => True) (s0 := (0 : Int)) rfl (by
  rintro k x hk rfl
  obtain ⟨z, z1, z2⟩ := suffix_l1_at k hk
  unfold ifexpr_suffix_b4
  rw [if_pos (decide_eq_true (by omega)), z1, Option.bind_some, chkT (by omega), chkT (by omega), orO_some, Option.bind_some]
  by_cases hc : (decide (s = y ++ z) || decide (s = z ++ y)) = true
  ·rw [if_pos hc]; right; exact ⟨_, rfl, trivial⟩
  ·rw [if_neg hc, chkT (by omega)]; left; exact ⟨_, rfl, by push_cast; rfl⟩) (by
  rintro x rfl
  refine ⟨.inl (), ?_, trivial⟩
  unfold ifexpr_suffix_b4
  exact if_neg (by simp))
 exact ⟨r, g1⟩
theorem suffix_tot (s : List UInt8) : ∃ b, ifexpr_suffix s = some b := by
 unfold ifexpr_suffix
 obtain ⟨r, g1, _⟩ := loopS_ix (f := ifexpr_suffix_b2 s) 5 (by omega) (fun k x => x = (k : Int)) (fun _ => True) (s0 := (0 : Int)) rfl (by
  rintro k x hk rfl
  obtain ⟨y, y1, y2⟩ := suffix_l0_at k hk
  obtain ⟨q, hq⟩ := suffix_in s y y2
  unfold ifexpr_suffix_b2
  rw [if_pos (decide_eq_true (by omega)), y1, Option.bind_some, hq, Option.bind_some]
  cases q with
  | inl w =>
   left
   simp only [ifexpr_suffix_j3]
   rw [chkT (by omega)]
   exact ⟨_, rfl, by push_cast; rfl⟩
  | inr w => right; exact ⟨_, rfl, trivial⟩) (by
  rintro x rfl
  refine ⟨.inl (), ?_, trivial⟩
  unfold ifexpr_suffix_b2
  exact if_neg (by simp))
 rw [g1, Option.bind_some]
 cases r with
 | inl w => exact ⟨_, rfl⟩
 | inr w => exact ⟨_, rfl⟩
theorem number_j1_tot (base : Int) (hb : base = 8 ∨ base = 10 ∨ base = 16) (ds : List UInt8) (hl : ds.length ≤ 1000) : ∃ v, ifexpr_Number_j1 (base, ds) = some v := by
  unfold ifexpr_Number_j1
  simp only
  obtain ⟨r, g1, g2⟩ := loopS_ix (f := ifexpr_Number_b3 base ds) ds.length (by omega) (fun k x => ∃ n : Int, x = (n, (k : Int)) ∧ 0 ≤ n ∧ n < 9223372036854775808) (fun r => ∀ n i, r = .inl (n, i) → 0 ≤ n ∧ n < 9223372036854775808 ∧ 0 ≤ i ∧ i ≤ (ds.length : Int)) (s0 := ((0 : Int), (0 : Int))) ⟨0, rfl, by omega, by omega⟩ (by
    rintro k x hk ⟨n, rfl, h0, h1⟩
    obtain ⟨d, d1, d2, d3⟩ := digit_tot ds[k]
    unfold ifexpr_Number_b3
    simp only
    rw [if_pos (decide_eq_true (by omega)), ix_at hk, Option.bind_some, d1, Option.bind_some]
    by_cases hbd : base ≤ d
    · rw [if_pos (decide_eq_true hbd)]
      right
      refine ⟨_, rfl, ?_⟩
      intro n' i' e
      have e := Sum.inl.inj e
      simp only [Prod.mk.injEq] at e
      omega
    · rw [if_neg (by simpa using hbd), chkT (by omega), orO_some, Option.bind_some]
      by_cases hc : (!decide ((mul64 n base).1 = 0) || decide ((9223372036854775808 : Int) ≤ (mul64 n base).2)) = true
      · rw [hc, show ∀ x, orO true x = some true from fun _ => rfl, Option.bind_some, if_pos rfl]
        right
        exact ⟨_, rfl, fun n' i' e => by cases e⟩
      · have hc2 := hc
        have hp : 0 ≤ (mul64 n base).2 := by unfold mul64; simp only; omega
        have hlt : (mul64 n base).2 < 9223372036854775808 := by
          simp only [Bool.or_eq_true, not_or, decide_eq_true_eq] at hc2
          omega
        have hcf : (!decide ((mul64 n base).1 = 0) || decide ((9223372036854775808 : Int) ≤ (mul64 n base).2)) = false := by simpa using hc
        rw [hcf, chkT (by omega), orO_some, Option.bind_some]
        by_cases h9 : (9223372036854775808 : Int) ≤ (mul64 n base).2 + d
        · rw [if_pos (by rw [decide_eq_true h9]; rfl)]
          right
          exact ⟨_, rfl, fun n' i' e => by cases e⟩
        · rw [if_neg (by rw [decide_eq_false h9]; simp), chkT (by omega), chkT (by omega)]
          left
          exact ⟨_, rfl, _, by push_cast; rfl, by omega, by omega⟩) (by
    rintro x ⟨n, rfl, h0, h1⟩
    refine ⟨.inl (n, (ds.length : Int)), ?_, ?_⟩
    · unfold ifexpr_Number_b3
      simp only
      exact if_neg (by simp)
    · intro n' i' e
      have e := Sum.inl.inj e
      simp only [Prod.mk.injEq] at e
      omega)
  rw [g1, Option.bind_some]
  cases r with
  | inr w => exact ⟨_, rfl⟩
  | inl w =>
    obtain ⟨n, i⟩ := w
    obtain ⟨h0, h1, h2, h3⟩ := g2 n i rfl
    simp only
    unfold ifexpr_Number_j2
    simp only
    obtain ⟨b, hb⟩ := suffix_tot (ds.drop i.toNat)
    rw [chkT (by omega), hb, Option.bind_some, orO_some, Option.bind_some]
    by_cases hc : (decide (i = 0) || !b) = true
    · rw [if_pos hc]; exact ⟨_, rfl⟩
    · rw [if_neg hc, chkT (by omega)]; exact ⟨_, rfl⟩
theorem Number_tot (s : List UInt8) (hl : s.length ≤ 1000) : ∃ v, ifexpr_Number s = some v := by
 unfold ifexpr_Number
 rw [orO_some, Option.bind_some]
 by_cases h : (Lib.hasPrefix s [48, 120] || Lib.hasPrefix s [48, 88]) = true
 ·rw [if_pos h]
  have h2 : 2 ≤ s.length := by
   rw [Bool.or_eq_true] at h
   rcases h with h | h
   ·exact isPrefix_len (p := [48, 120]) h
   ·exact isPrefix_len (p := [48, 88]) h
  rw [chkT (by omega)]
  exact number_j1_tot 16 (by omega) _ (by rw [List.length_drop]; omega)
 ·rw [if_neg h]
  by_cases h3 : Lib.hasPrefix s [48] = true
  ·rw [if_pos h3]; exact number_j1_tot 8 (by omega) _ hl
  ·rw [if_neg h3]; exact number_j1_tot 10 (by omega) _ hl
theorem index_tot (L : List (List UInt8)) (s : List UInt8) (hl : L.length ≤ 1000000) : ∃ k, slices_Index_Lstring_string L s = some k := by
 unfold slices_Index_Lstring_string
 obtain ⟨r, g1, _⟩ := loopS_ix (f := slices_Index_Lstring_string_b2 L s) L.length (by omega) (fun k x => x = (k : Int)) (fun _ => True) (s0 := (0 : Int)) rfl (by
  rintro k x hk rfl
  unfold slices_Index_Lstring_string_b2
  rw [if_pos (decide_eq_true (by omega)), ix_at hk, Option.bind_some]
  by_cases e : s = L[k]
  ·rw [if_pos (decide_eq_true e)]; right; exact ⟨_, rfl, trivial⟩
  ·rw [if_neg (by simpa using e), chkT (by omega)]; left; exact ⟨_, rfl, by push_cast; rfl⟩) (by
  rintro x rfl
  refine ⟨.inl (), ?_, trivial⟩
  unfold slices_Index_Lstring_string_b2
  exact if_neg (by simp))
 rw [g1, Option.bind_some]
 cases r with
 | inl w => exact ⟨_, rfl⟩
 | inr w => exact ⟨_, rfl⟩
theorem contains_tot (L : List (List UInt8)) (s : List UInt8) (hl : L.length ≤ 1000000) : ∃ b, slices_Contains_Lstring_string L s = some b := by
 obtain ⟨k, hk⟩ := index_tot L s hl
 unfold slices_Contains_Lstring_string
 rw [hk]
 exact ⟨_, rfl⟩
theorem level_all : ifexpr_level_l0.all (fun y => decide (y.length < 4294967281 ∧ (∀ b ∈ y, b.toNat < 128) ∧ (Lib.fields y).length ≤ 1000000)) = true := by kernel_rfl
theorem level_at (k : Nat) (hk : k < 10) : ∃ y, ix ifexpr_level_l0 (k : Int) = some y ∧ (y.length < 4294967281 ∧ (∀ b ∈ y, b.toNat < 128) ∧ (Lib.fields y).length ≤ 1000000) := by
 have hl : ifexpr_level_l0.length = 10 := rfl
 have hk : k < ifexpr_level_l0.length := by omega
 have h := of_decide_eq_true (List.all_eq_true.1 level_all _ (List.getElem_mem hk))
 exact ⟨_, ix_at hk, h⟩
theorem level_tot (s : List UInt8) : ∃ k, ifexpr_level s = some k ∧ 0 ≤ k ∧ k ≤ 10 ∧ (k ≠ 0 → s ≠ []) := by
  have hz : ∀ k, ifexpr_level s = some k → k ≠ 0 → s ≠ [] := by
    rintro k h h0 rfl
    rw [show ifexpr_level [] = some 0 by kernel_rfl] at h
    exact h0 (Option.some.inj h).symm
  have main : ∃ k, ifexpr_level s = some k ∧ 0 ≤ k ∧ k ≤ 10 := by
    unfold ifexpr_level
    obtain ⟨r, g1, g2⟩ := loopS_ix (f := ifexpr_level_b2 s) 10 (by omega) (fun k x => x = (k : Int)) (fun r => ∀ k, r = .inr k → 0 ≤ k ∧ k ≤ (10 : Int)) (s0 := (0 : Int)) rfl (by
      rintro k x hk rfl
      obtain ⟨y, hy, hc⟩ := level_at k hk
      obtain ⟨b, hb⟩ := contains_tot (Lib.fields y) s hc.2.2
      unfold ifexpr_level_b2
      rw [if_pos (decide_eq_true (by omega)), hy, Option.bind_some, chkT hc, hb, Option.bind_some]
      cases b with
      | true =>
        rw [if_pos rfl, chkT (by omega)]
        right
        refine ⟨_, rfl, ?_⟩
        intro k' e
        have e := Sum.inr.inj e
        omega
      | false =>
        rw [if_neg (by simp), chkT (by omega)]
        left
        exact ⟨_, rfl, by push_cast; rfl⟩) (by
      rintro x rfl
      refine ⟨.inl (), ?_, by intro k e; cases e⟩
      unfold ifexpr_level_b2
      exact if_neg (by simp))
    rw [g1, Option.bind_some]
    cases r with
    | inl w => exact ⟨0, rfl, by omega, by omega⟩
    | inr w => exact ⟨w, rfl, g2 w rfl⟩
  obtain ⟨k, h1, h2, h3⟩ := main
  exact ⟨k, h1, h2, h3, hz k h1⟩
theorem truth_tot (b : Bool) : ∃ n, ifexpr_truth b = some n := by
  unfold ifexpr_truth; cases b
  · exact ⟨0, rfl⟩
  · exact ⟨1, rfl⟩
theorem tot_ite {α : Type} {b : Bool} {x y : Option α} (hx : ∃ r, x = some r) (hy : ∃ r, y = some r) : ∃ r, (if b = true then x else y) = some r := by
 cases b
 ·rw [if_neg (by simp)]; exact hy
 ·rw [if_pos rfl]; exact hx
theorem tot_bind {α β : Type} {x : Option α} {k : α → Option β} (hx : ∃ a, x = some a) (hk : ∀ a, ∃ r, k a = some r) : ∃ r, x.bind k = some r := by
 obtain ⟨a, rfl⟩ := hx
 exact hk a
theorem plain_tot (s : List UInt8) (n m : Int) : ∃ r, ifexpr_plain s n m = some r := by
 unfold ifexpr_plain
 refine tot_ite ⟨_, rfl⟩ (tot_ite ⟨_, rfl⟩ (tot_ite ⟨_, rfl⟩ (tot_ite ⟨_, rfl⟩ (tot_ite ⟨_, rfl⟩ (tot_ite ⟨_, rfl⟩ ?_)))))
 refine tot_ite (tot_bind (truth_tot _) fun _ => ⟨_, rfl⟩) (tot_ite (tot_bind (truth_tot _) fun _ => ⟨_, rfl⟩) (tot_ite (tot_bind (truth_tot _) fun _ => ⟨_, rfl⟩) (tot_ite (tot_bind (truth_tot _) fun _ => ⟨_, rfl⟩) (tot_ite (tot_bind (truth_tot _) fun _ => ⟨_, rfl⟩) (tot_bind (truth_tot _) fun _ => ⟨_, rfl⟩)))))
theorem both_j4_tot (s : List UInt8) (n m : Int) (b : Bool) : ∃ r, ifexpr_both_j4 s n m b = some r := by
 unfold ifexpr_both_j4
 refine tot_ite (tot_bind (truth_tot _) fun _ => ⟨_, rfl⟩) ?_
 unfold ifexpr_both_j1
 exact tot_bind (plain_tot s n m) fun _ => ⟨_, rfl⟩
theorem both_j3_tot (s : List UInt8) (n m : Int) (b : Bool) : ∃ r, ifexpr_both_j3 s n m b = some r := by
 unfold ifexpr_both_j3
 refine tot_ite ?_ (tot_ite (both_j4_tot s n m _) (both_j4_tot s n m _))
 rw [orO_some, Option.bind_some]
 by_cases h : (decide (m < 0) || decide ((63 : Int) < m)) = true
 ·rw [if_pos h]; exact ⟨_, rfl⟩
 ·rw [if_neg h]
  have h0 : 0 ≤ m := by
   simp only [Bool.or_eq_true, not_or, decide_eq_true_eq] at h
   omega
  rw [chkT h0, chkT h0]
  exact tot_ite ⟨_, rfl⟩ ⟨_, rfl⟩
theorem both_j2_tot (s : List UInt8) (n m : Int) (b : Bool) : ∃ r, ifexpr_both_j2 s n m b = some r := by
 unfold ifexpr_both_j2
 refine tot_ite ?_ (tot_ite (both_j3_tot s n m _) (both_j3_tot s n m _))
 by_cases h : m = 0
 ·rw [if_pos (decide_eq_true h)]; exact ⟨_, rfl⟩
 ·rw [if_neg (by simpa using h), chkT h, chkT h]
  exact tot_ite (tot_bind (truth_tot _) fun _ => ⟨_, rfl⟩) (tot_ite ⟨_, rfl⟩ ⟨_, rfl⟩)
theorem both_tot (s : List UInt8) (n m : Int) : ∃ r, ifexpr_both s n m = some r := by
 unfold ifexpr_both
 exact tot_ite (both_j2_tot s n m _) (both_j2_tot s n m _)
def vdep : GVal → Nat
 | .num _ => 0
 | .un _ x => vdep x + 1
 | .bin _ x y => max (vdep x) (vdep y) + 1
 | .cho c x y => max (vdep c) (max (vdep x) (vdep y)) + 1
theorem comes_tot : ∀ (n : Nat) (v : GVal), vdep v < n → ∃ r, comesN n v = some r
 | 0, v, h => absurd h (Nat.not_lt_zero _)
 | n + 1, .num k, h => ⟨_, rfl⟩
 | n + 1, .un s x, h => by
  show ∃ r, ifexpr_unary_comes (comesN n) ⟨s, x⟩ = some r
  unfold ifexpr_unary_comes
  have hj : ∀ r k, ∃ q, ifexpr_unary_comes_j1 (comesN n) r k = some q := by
   intro r k
   unfold ifexpr_unary_comes_j1
   exact tot_ite ⟨_, rfl⟩ ⟨_, rfl⟩
  refine tot_bind (comes_tot n x (by simp only [vdep] at h; omega)) fun r => tot_ite (hj _ _) (tot_ite (tot_bind (truth_tot _) fun _ => hj _ _) (tot_ite (hj _ _) (hj _ _)))
 | n + 1, .bin s x y, h => by
  show ∃ r, ifexpr_binary_comes (comesN n) ⟨s, x, y⟩ = some r
  unfold ifexpr_binary_comes
  refine tot_bind (comes_tot n x (by simp only [vdep] at h; omega)) fun r => tot_ite ⟨_, rfl⟩ ?_
  rw [andO_some, Option.bind_some, andO_some, Option.bind_some]
  refine tot_ite ⟨_, rfl⟩ (tot_ite ⟨_, rfl⟩ (tot_bind (comes_tot n y (by simp only [vdep] at h; omega)) fun r2 => tot_ite ⟨_, rfl⟩ (tot_bind (both_tot _ _ _) fun _ => ⟨_, rfl⟩)))
 | n + 1, .cho c x y, h => by
  show ∃ r, ifexpr_choice_comes (comesN n) ⟨c, x, y⟩ = some r
  unfold ifexpr_choice_comes
  refine tot_bind (comes_tot n c (by simp only [vdep] at h; omega)) fun r => tot_ite ⟨_, rfl⟩ (tot_ite (tot_bind (comes_tot n x (by simp only [vdep] at h; omega)) fun _ => ⟨_, rfl⟩) (tot_bind (comes_tot n y (by simp only [vdep] at h; omega)) fun _ => ⟨_, rfl⟩))
end Go.Sh
set_option linter.unusedVariables false
set_option linter.unusedSimpArgs false
namespace Go.Sh
open Go
def Sim (r r' : GIfexpr_reader) : Prop := r.l.map kt = r'.l.map kt ∧ r.wrong = r'.wrong ∧ r.bad = r'.bad ∧ ∀ t ∈ r.l, Good t
def sgn : List GTok → List UInt8
 | [] => []
 | t :: _ => if t.kind = 5 then t.text else []
theorem sgn_cons (t : GTok) (l : List GTok) : sgn (t :: l) = if t.kind = 5 then t.text else [] := rfl
theorem rsgn_eq (r : GIfexpr_reader) : ifexpr_reader_sign r = some (sgn r.l) := by
 unfold ifexpr_reader_sign
 match r with
 | ⟨[], w, b⟩ => rfl
 | ⟨t :: l, w, b⟩ =>
  simp only
  rw [show ix (t :: l) 0 = some t from rfl, Option.bind_some, orO_some, Option.bind_some, Option.bind_some]
  rw [sgn_cons]
  by_cases h : t.kind = 5
  ·rw [if_pos h, if_neg (by simp [h]; omega)]
  ·rw [if_neg h, if_pos (by simp [h])]
theorem sgn_kt : ∀ {l l' : List GTok}, l.map kt = l'.map kt → sgn l = sgn l'
  | [], [], _ => rfl
  | [], _ :: _, h => by cases h
  | _ :: _, [], h => by cases h
  | a :: l, b :: l', h => by
    rw [List.map_cons, List.map_cons, List.cons.injEq] at h
    have e := Prod.mk.inj h.1
    rw [sgn_cons, sgn_cons]
    rw [show a.kind = b.kind from e.1, show a.text = b.text from e.2]
def need (r : GIfexpr_reader) (s : List UInt8) : GIfexpr_reader := if sgn r.l = s then GIfexpr_reader.mk (r.l.drop 1) r.wrong r.bad else GIfexpr_reader.mk r.l true r.bad
theorem sgn_len {l : List GTok} {s : List UInt8} (h : sgn l = s) (hs : s ≠ []) : 1 ≤ l.length := by
 cases l with
 | nil => exact absurd h.symm hs
 | cons t l => simp
theorem needs_eq (r : GIfexpr_reader) (s : List UInt8) (hs : s ≠ []) : ifexpr_reader_needs r s = some ((), need r s) := by
 unfold ifexpr_reader_needs need
 rw [rsgn_eq, Option.bind_some]
 by_cases h : sgn r.l = s
 ·have := sgn_len h hs
  rw [if_neg (by simpa using h), if_pos h, chkT (by omega)]
  rfl
 ·rw [if_pos (by simpa using h), if_neg h]
theorem need_sim {r r' : GIfexpr_reader} (h : Sim r r') (s : List UInt8) : Sim (need r s) (need r' s) := by
 obtain ⟨h1, h2, h3, h4⟩ := h
 unfold need
 rw [sgn_kt h1]
 by_cases e : sgn r'.l = s
 ·rw [if_pos e, if_pos e]
  exact ⟨by simp only [List.map_drop, h1], h2, h3, fun t ht => h4 t (List.mem_of_mem_drop ht)⟩
 ·rw [if_neg e, if_neg e]
  exact ⟨h1, rfl, h3, h4⟩
theorem need_len (r : GIfexpr_reader) (s : List UInt8) : (need r s).l.length ≤ r.l.length := by
  unfold need; split
  · simp only [List.length_drop]; omega
  · exact Nat.le_refl _
theorem need_hit {r : GIfexpr_reader} {s : List UInt8} (h : sgn r.l = s) (hs : s ≠ []) : (need r s).l.length + 1 = r.l.length := by
 have := sgn_len h hs
 unfold need
 rw [if_pos h]
 simp only [List.length_drop]; omega
def Two (m : Nat) (X X' : Option (GVal × GIfexpr_reader)) : Prop := ∃ v q q', X = some (v, q) ∧ X' = some (v, q') ∧ Sim q q' ∧ q.l.length ≤ m ∧ vdep v ≤ (m - q.l.length) + 1
def RdOk (n : Nat) : Prop := n ≤ 100000 → ∀ (r r' : GIfexpr_reader) (deep : Int), Sim r r' → r.l.length ≤ n → 0 ≤ deep → deep ≤ 60 →
 (∀ f, 5 * n + 6 ≤ f → Two r.l.length ((readN f).ifexpr_reader_inner r deep) ((readN f).ifexpr_reader_inner r' deep)) ∧
 (∀ f, 5 * n + 5 ≤ f → Two r.l.length ((readN f).ifexpr_reader_choice r deep) ((readN f).ifexpr_reader_choice r' deep)) ∧
 (∀ f least, 5 * n + 4 ≤ f → Two r.l.length ((readN f).ifexpr_reader_binary r least deep) ((readN f).ifexpr_reader_binary r' least deep)) ∧
 (∀ f, 5 * n + 3 ≤ f → Two r.l.length ((readN f).ifexpr_reader_unary r deep) ((readN f).ifexpr_reader_unary r' deep)) ∧
 (∀ f, 5 * n + 2 ≤ f → Two r.l.length ((readN f).ifexpr_reader_atom r deep) ((readN f).ifexpr_reader_atom r' deep))
theorem two_wrong {r r' : GIfexpr_reader} (h : Sim r r') : Two r.l.length (some (GVal.num 0, GIfexpr_reader.mk r.l true r.bad)) (some (GVal.num 0, GIfexpr_reader.mk r'.l true r'.bad)) :=
 ⟨_, _, _, rfl, rfl, ⟨h.1, rfl, h.2.2.1, h.2.2.2⟩, Nat.le_refl _, Nat.zero_le _⟩
theorem atom_j1_two (R : ReadR) (n e : Int) {q q' : GIfexpr_reader} (h : Sim q q') {m : Nat} (hm : q.l.length ≤ m) : Two m (ifexpr_reader_atom_j1 R (n, e, q)) (ifexpr_reader_atom_j1 R (n, e, q')) := by
 unfold ifexpr_reader_atom_j1 ifexpr_reader_atom_j2
 simp only
 rw [← h.2.2.1]
 by_cases hb : q.bad = 0
 ·rw [if_pos (decide_eq_true hb), if_pos (decide_eq_true hb)]
  exact ⟨_, _, _, rfl, rfl, ⟨h.1, h.2.1, rfl, h.2.2.2⟩, hm, Nat.zero_le _⟩
 ·rw [if_neg (by simpa using hb), if_neg (by simpa using hb)]
  exact ⟨_, _, _, rfl, rfl, h, hm, Nat.zero_le _⟩
theorem atom_two {n : Nat} (ih : ∀ m, m < n → RdOk m) (hn : n ≤ 100000) {r r' : GIfexpr_reader} {deep : Int} (h : Sim r r') (hl : r.l.length ≤ n) (h0 : 0 ≤ deep) (h6 : deep ≤ 60) (f : Nat) (hf : 5 * n + 2 ≤ f) : Two r.l.length ((readN f).ifexpr_reader_atom r deep) ((readN f).ifexpr_reader_atom r' deep) := by
 obtain ⟨f, rfl⟩ : ∃ k, f = k + 1 := ⟨f - 1, by omega⟩
 show Two _ (ifexpr_reader_atomF (readN f) r deep) (ifexpr_reader_atomF (readN f) r' deep)
 unfold ifexpr_reader_atomF
 have hs := sgn_kt h.1
 have hll := kt_len h.1
 rw [rsgn_eq, rsgn_eq, Option.bind_some, Option.bind_some, ← hs]
 by_cases hp : sgn r.l = [40]
 ·have hh := need_hit hp (by simp)
  rw [if_pos (decide_eq_true hp), if_pos (decide_eq_true hp), needs_eq _ _ (by simp), needs_eq _ _ (by simp), Option.bind_some, Option.bind_some]
  obtain ⟨v, q, q', e1, e2, e3, e4, e5⟩ := ((ih (n - 1) (by omega) (by omega)) (need r [40]) (need r' [40]) deep (need_sim h _) (by omega) h0 h6).1 f (by omega)
  simp only
  rw [e1, e2, Option.bind_some, Option.bind_some]
  simp only
  rw [needs_eq _ _ (by simp), needs_eq _ _ (by simp), Option.bind_some, Option.bind_some]
  have := need_len q [41]
  exact ⟨v, need q [41], need q' [41], rfl, rfl, need_sim e3 _, by omega, by omega⟩
 ·have hpb : ¬ decide (sgn r.l = [40]) = true := by simpa using hp
  rw [if_neg hpb, if_neg hpb]
  rw [← hll]
  by_cases hz : r.l.length = 0
  ·rw [if_pos (decide_eq_true (by omega)), if_pos (decide_eq_true (by omega))]
   exact two_wrong h
  ·have hzb : ¬ decide ((r.l.length : Int) = 0) = true := by
    intro e
    have := of_decide_eq_true e
    omega
   rw [if_neg hzb, if_neg hzb]
   have hk : 0 < r.l.length := by omega
   obtain ⟨hk', ek⟩ := kt_at h.1 0 hk
   have ek2 := Prod.mk.inj ek
   have x1 : ix r.l 0 = some r.l[0] := ix_at (k := 0) hk
   have x2 : ix r'.l 0 = some r'.l[0] := ix_at (k := 0) hk'
   have g := h.2.2.2 _ (List.getElem_mem hk)
   rw [x1, x2, Option.bind_some, Option.bind_some]
   have hd : ∀ w w' : Bool, w = w' → Sim (GIfexpr_reader.mk (r.l.drop (1 : Int).toNat) w r.bad) (GIfexpr_reader.mk (r'.l.drop (1 : Int).toNat) w' r'.bad) := by
    rintro w _ rfl
    refine ⟨?_, rfl, h.2.2.1, fun t ht => h.2.2.2 t (List.mem_of_mem_drop ht)⟩
    simp only [List.map_drop, h.1]
   have hdl : ∀ w : Bool, (GIfexpr_reader.mk (r.l.drop (1 : Int).toNat) w r.bad).l.length ≤ r.l.length := by
    intro w; simp only [List.length_drop]; omega
   rw [← (show r.l[0].kind = r'.l[0].kind from ek2.1), ← (show r.l[0].text = r'.l[0].text from ek2.2)]
   have hch : ∀ X : Option (GVal × GIfexpr_reader), chk (0 ≤ (1 : Int) ∧ (1 : Int) ≤ (r.l.length : Int)) X = X := fun X => chkT (by omega)
   by_cases k2 : r.l[0].kind = 2
   ·obtain ⟨v, hv⟩ := Number_tot r.l[0].text g.2.2
    have kb := decide_eq_true k2
    simp only [hch, if_pos kb, hv, Option.bind_some]
    exact atom_j1_two _ _ _ (hd _ _ h.2.1) (hdl _)
   ·have kb : ¬ decide (r.l[0].kind = 2) = true := by simpa using k2
    have kc : ¬ decide (r.l[0].kind = 3) = true := by simpa using g.2.1
    by_cases k1 : r.l[0].kind = 1
    ·have ka := decide_eq_true k1
     simp only [hch, if_neg kb, if_neg kc, if_pos ka]
     exact atom_j1_two _ _ _ (hd _ _ h.2.1) (hdl _)
    ·have ka : ¬ decide (r.l[0].kind = 1) = true := by simpa using k1
     simp only [hch, if_neg kb, if_neg kc, if_neg ka]
     exact atom_j1_two _ _ _ (hd _ _ rfl) (hdl _)
theorem unary_two {n : Nat} (ih : ∀ m, m < n → RdOk m) (hn : n ≤ 100000) {r r' : GIfexpr_reader} {deep : Int} (h : Sim r r') (hl : r.l.length ≤ n) (h0 : 0 ≤ deep) (h6 : deep ≤ 60) (f : Nat) (hf : 5 * n + 3 ≤ f) : Two r.l.length ((readN f).ifexpr_reader_unary r deep) ((readN f).ifexpr_reader_unary r' deep) := by
 obtain ⟨f, rfl⟩ : ∃ k, f = k + 1 := ⟨f - 1, by omega⟩
 show Two _ (ifexpr_reader_unaryF (readN f) r deep) (ifexpr_reader_unaryF (readN f) r' deep)
 unfold ifexpr_reader_unaryF
 have hs := sgn_kt h.1
 simp only [rsgn_eq, Option.bind_some, ← hs, andO_some]
 by_cases hc : (((!decide (sgn r.l = [43])) && (!decide (sgn r.l = [45]))) && (!decide (sgn r.l = [33])) && (!decide (sgn r.l = [126]))) = true
 ·rw [if_pos hc, if_pos hc]
  obtain ⟨v, q, q', e1, e2, e3, e4, e5⟩ := atom_two ih hn h hl h0 h6 f (by omega)
  rw [e1, e2]
  exact ⟨v, q, q', rfl, rfl, e3, e4, e5⟩
 ·rw [if_neg hc, if_neg hc]
  have hne : sgn r.l ≠ [] := by
   intro e; rw [e] at hc; exact hc (by decide)
  by_cases hd : deep = 60
  ·rw [if_pos (decide_eq_true hd), if_pos (decide_eq_true hd)]
   exact two_wrong h
  ·rw [if_neg (by simpa using hd), if_neg (by simpa using hd), needs_eq _ _ hne, needs_eq _ _ hne, Option.bind_some, Option.bind_some]
   have hh := need_hit (r := r) rfl hne
   obtain ⟨v, q, q', e1, e2, e3, e4, e5⟩ := ((ih (n - 1) (by omega) (by omega)) (need r (sgn r.l)) (need r' (sgn r.l)) (deep + 1) (need_sim h _) (by omega) (by omega) (by omega)).2.2.2.1 f (by omega)
   simp only
   rw [chkT (by omega), e1, Option.bind_some]
   try rw [chkT (by omega)]
   rw [e2, Option.bind_some]
   exact ⟨GVal.un (sgn r.l) v, q, q', rfl, rfl, e3, by omega, by simp only [vdep]; omega⟩
theorem binary_two {n : Nat} (ih : ∀ m, m < n → RdOk m) (hn : n ≤ 100000) {r r' : GIfexpr_reader} {deep : Int} (h : Sim r r') (hl : r.l.length ≤ n) (h0 : 0 ≤ deep) (h6 : deep ≤ 60) (f : Nat) (least : Int) (hf : 5 * n + 4 ≤ f) : Two r.l.length ((readN f).ifexpr_reader_binary r least deep) ((readN f).ifexpr_reader_binary r' least deep) := by
 obtain ⟨f, rfl⟩ : ∃ k, f = k + 1 := ⟨f - 1, by omega⟩
 show Two _ (ifexpr_reader_binaryF (readN f) r least deep) (ifexpr_reader_binaryF (readN f) r' least deep)
 unfold ifexpr_reader_binaryF
 obtain ⟨v, q, q', e1, e2, e3, e4, e5⟩ := unary_two ih hn h hl h0 h6 f (by omega)
 rw [e1, e2, Option.bind_some, Option.bind_some]
 simp only
 obtain ⟨o, o', g1, g2, g3⟩ := loopS_two (f := ifexpr_reader_binary_b2 (readN f) least deep) (f' := ifexpr_reader_binary_b2 (readN f) least deep) (fun s s' => s.1 = s'.1 ∧ Sim s.2 s'.2 ∧ s.2.l.length ≤ r.l.length ∧ vdep s.1 ≤ (r.l.length - s.2.l.length) + 1) (fun s => s.2.l.length)
  (fun o o' => ∃ x a a', Sim a a' ∧ a.l.length ≤ r.l.length ∧ vdep x ≤ (r.l.length - a.l.length) + 1 ∧ ((o = .inl (x, a) ∧ o' = .inl (x, a')) ∨ (o = .inr (x, a) ∧ o' = .inr (x, a')))) (s := (v, q)) (s' := (v, q')) ⟨rfl, e3, e4, e5⟩ (by
   simp only
   omega) (by
  rintro ⟨x, a⟩ ⟨x', a'⟩ ⟨h1, h2, h3, h4⟩
  simp only at h1 h2 h3 h4
  subst h1
  unfold ifexpr_reader_binary_b2
  simp only
  rw [← h2.2.1]
  by_cases hw : a.wrong = true
  ·right
   rw [if_neg (by rw [hw]; simp), if_neg (by rw [hw]; simp)]
   exact ⟨_, _, rfl, rfl, x, a, a', h2, h3, h4, .inl ⟨rfl, rfl⟩⟩
  ·rw [if_pos (by simpa using hw), if_pos (by simpa using hw), rsgn_eq, rsgn_eq, Option.bind_some, Option.bind_some, ← sgn_kt h2.1]
   obtain ⟨k, k1, k2, k3, k4⟩ := level_tot (sgn a.l)
   simp only [k1, Option.bind_some, orO_some]
   by_cases hc : (decide (k < least) || decide (k = 0)) = true
   ·rw [if_pos hc, if_pos hc]
    right
    exact ⟨_, _, rfl, rfl, x, a, a', h2, h3, h4, .inr ⟨rfl, rfl⟩⟩
   ·rw [if_neg hc, if_neg hc]
    have hk0 : k ≠ 0 := by
     intro e; apply hc; rw [e]; simp
    have hne := k4 hk0
    have hh := need_hit (r := a) rfl hne
    rw [needs_eq _ _ hne, needs_eq _ _ hne, Option.bind_some, Option.bind_some]
    obtain ⟨v2, p, p', d1, d2, d3, d4, d5⟩ := ((ih (n - 1) (by omega) (by omega)) (need a (sgn a.l)) (need a' (sgn a.l)) deep (need_sim h2 _) (by omega) h0 h6).2.2.1 f (k + 1) (by omega)
    simp only
    rw [chkT (by omega), d1, Option.bind_some]
    try rw [chkT (by omega)]
    rw [d2, Option.bind_some]
    left
    exact ⟨_, _, rfl, rfl, ⟨rfl, d3, by simp only; omega, by simp only [vdep]; omega⟩, by simp only; omega⟩)
 rw [g1, g2, Option.bind_some, Option.bind_some]
 obtain ⟨x, a, a', s1, s2, s3, ⟨rfl, rfl⟩ | ⟨rfl, rfl⟩⟩ := g3
 ·exact ⟨_, _, _, rfl, rfl, s1, s2, s3⟩
 ·exact ⟨_, _, _, rfl, rfl, s1, s2, s3⟩
theorem choice_two {n : Nat} (ih : ∀ m, m < n → RdOk m) (hn : n ≤ 100000) {r r' : GIfexpr_reader} {deep : Int} (h : Sim r r') (hl : r.l.length ≤ n) (h0 : 0 ≤ deep) (h6 : deep ≤ 60) (f : Nat) (hf : 5 * n + 5 ≤ f) : Two r.l.length ((readN f).ifexpr_reader_choice r deep) ((readN f).ifexpr_reader_choice r' deep) := by
 obtain ⟨f, rfl⟩ : ∃ k, f = k + 1 := ⟨f - 1, by omega⟩
 show Two _ (ifexpr_reader_choiceF (readN f) r deep) (ifexpr_reader_choiceF (readN f) r' deep)
 unfold ifexpr_reader_choiceF
 obtain ⟨v, q, q', e1, e2, e3, e4, e5⟩ := binary_two ih hn h hl h0 h6 f 1 (by omega)
 rw [e1, e2, Option.bind_some, Option.bind_some]
 simp only
 simp only [rsgn_eq, Option.bind_some, ← sgn_kt e3.1, ← e3.2.1, orO_some]
 by_cases hc : (q.wrong || !decide (sgn q.l = [63])) = true
 ·rw [if_pos hc, if_pos hc]
  exact ⟨_, _, _, rfl, rfl, e3, e4, e5⟩
 ·rw [if_neg hc, if_neg hc]
  have hs : sgn q.l = [63] := by
   simp only [Bool.or_eq_true, not_or, Bool.not_eq_true', decide_eq_false_iff_not, Decidable.not_not] at hc
   exact hc.2
  have hh := need_hit hs (by simp)
  rw [needs_eq _ _ (by simp), needs_eq _ _ (by simp), Option.bind_some, Option.bind_some]
  obtain ⟨v1, p, p', d1, d2, d3, d4, d5⟩ := ((ih (n - 1) (by omega) (by omega)) (need q [63]) (need q' [63]) deep (need_sim e3 _) (by omega) h0 h6).1 f (by omega)
  simp only
  rw [d1, d2, Option.bind_some, Option.bind_some]
  simp only
  rw [needs_eq _ _ (by simp), needs_eq _ _ (by simp), Option.bind_some, Option.bind_some]
  have hn := need_len p [58]
  obtain ⟨v2, u, u', c1, c2, c3, c4, c5⟩ := ((ih (n - 1) (by omega) (by omega)) (need p [58]) (need p' [58]) deep (need_sim d3 _) (by omega) h0 h6).1 f (by omega)
  simp only
  rw [c1, c2, Option.bind_some, Option.bind_some]
  exact ⟨GVal.cho v v1 v2, u, u', rfl, rfl, c3, by omega, by simp only [vdep]; omega⟩
theorem inner_two {n : Nat} (ih : ∀ m, m < n → RdOk m) (hn : n ≤ 100000) {r r' : GIfexpr_reader} {deep : Int} (h : Sim r r') (hl : r.l.length ≤ n) (h0 : 0 ≤ deep) (h6 : deep ≤ 60) (f : Nat) (hf : 5 * n + 6 ≤ f) : Two r.l.length ((readN f).ifexpr_reader_inner r deep) ((readN f).ifexpr_reader_inner r' deep) := by
 obtain ⟨f, rfl⟩ : ∃ k, f = k + 1 := ⟨f - 1, by omega⟩
 show Two _ (ifexpr_reader_innerF (readN f) r deep) (ifexpr_reader_innerF (readN f) r' deep)
 unfold ifexpr_reader_innerF
 rw [orO_some, orO_some, Option.bind_some, Option.bind_some, ← h.2.1]
 by_cases hc : (decide (deep = 60) || r.wrong) = true
 ·rw [if_pos hc, if_pos hc]
  exact two_wrong h
 ·rw [if_neg hc, if_neg hc]
  have hd : deep ≠ 60 := by
   intro e; apply hc; rw [e]; simp
  obtain ⟨v, q, q', e1, e2, e3, e4, e5⟩ := choice_two ih hn h hl (deep := deep + 1) (by omega) (by omega) f (by omega)
  rw [chkT (by omega), e1, Option.bind_some]
  try rw [chkT (by omega)]
  rw [e2, Option.bind_some]
  exact ⟨v, q, q', rfl, rfl, e3, e4, e5⟩
theorem rd_ok (n : Nat) : RdOk n := by
 induction n using Nat.strongRecOn with
 | _ n ih =>
  intro hn r r' deep h hl h0 h6
  exact ⟨inner_two ih hn h hl h0 h6, choice_two ih hn h hl h0 h6, fun f least hf => binary_two ih hn h hl h0 h6 f least hf, unary_two ih hn h hl h0 h6, atom_two ih hn h hl h0 h6⟩
theorem delF_none {α : Type} {f : α → Option Bool} : ∀ {l : List α}, (∀ x ∈ l, f x = some false) → delF f l = some l
 | [], _ => rfl
 | x :: l, h => by
  rw [delF, h x (by simp), Option.bind_some, delF_none (fun y hy => h y (by simp [hy])), Option.bind_some]
  rfl
theorem eval_two (l l' : List GTok) (h : l.map kt = l'.map kt) (hl : l.length ≤ 300) (g : ∀ t ∈ l, Good t) : ∃ v, ifexpr_Eval l = some v ∧ ifexpr_Eval l' = some v := by
 have hll := kt_len h
 have g' := kt_all h g
 have dn : ∀ m : List GTok, (∀ t ∈ m, Good t) → delF (fun y => ifexpr_Eval_c1 y) m = some m := fun m hm => delF_none fun t ht => by
  show ifexpr_Eval_c1 t = some false
  unfold ifexpr_Eval_c1
  rw [decide_eq_false (hm t ht).1]
 obtain ⟨v, q, q', e1, e2, e3, e4, e5⟩ := (rd_ok l.length (by omega) (GIfexpr_reader.mk l false 0) (GIfexpr_reader.mk l' false 0) 0 ⟨h, rfl, rfl, g⟩ (Nat.le_refl _) (by omega) (by omega)).2.1 2000 (by omega)
 have hq := kt_len e3.1
 simp only at e4 e5
 obtain ⟨w, hw⟩ := comes_tot 2000 v (by omega)
 unfold ifexpr_Eval ifexpr_reader_choice comesV
 rw [chkT (by omega), chkT (by omega), dn l g, Option.bind_some, e1, Option.bind_some, orO_some, Option.bind_some]
 rw [chkT (by omega), chkT (by omega), dn l' g', Option.bind_some, e2, Option.bind_some, orO_some, Option.bind_some]
 simp only
 rw [hw, Option.bind_some, ← hq, ← e3.2.1, ← e3.2.2.1]
 by_cases hc : (q.wrong || decide ((0 : Int) < (q.l.length : Int))) = true
 ·rw [if_pos hc]; exact ⟨_, rfl, rfl⟩
 ·rw [if_neg hc]
  by_cases hb : (!decide (q.bad = 0)) = true
  ·rw [if_pos hb]; exact ⟨_, rfl, rfl⟩
  ·rw [if_neg hb]; exact ⟨_, rfl, rfl⟩
end Go.Sh
set_option linter.unusedVariables false
set_option linter.unusedSimpArgs false
namespace Go.Sh
open Go
def iY : List UInt8 := [121, 101, 115]
def iN : List UInt8 := [110, 111]
def iR : List UInt8 := [121, 101, 115, 10, 35, 101, 108, 115, 101, 10, 110, 111, 10, 35, 101, 110, 100, 105, 102, 10]
def ifLine (s : List UInt8) : List UInt8 := 35 :: 105 :: 102 :: 32 :: s
def iK : List Key := [(1, iY, false), (7, [10], false), (5, [35], false), (1, [101, 108, 115, 101], false), (7, [10], false), (1, iN, false), (7, [10], false), (5, [35], false), (1, [101, 110, 100, 105, 102], false), (7, [10], false)]
theorem keys_iR : (tokens 0 iR).map tk = iK := closed_keys (by decide) (by kernel_rfl)
theorem toks_if (s : List UInt8) : (toks 0 false (ifLine s)).map ptk = (5, [35], false) :: (1, [105, 102], false) :: (toks 4 true s).map ptk := by
 have n1 : nextTok (35 :: 105 :: 102 :: 32 :: s) = (5, 1) := by kernel_rfl
 have n2 : nextTok (105 :: 102 :: 32 :: s) = (1, 2) := by kernel_rfl
 have n3 : blankLen (32 :: s) = 1 := by kernel_rfl
 unfold ifLine
 rw [toks_tok (List.cons_ne_nil _ _) (by kernel_rfl), n1, List.map_cons]
 have e1 : (35 :: 105 :: 102 :: 32 :: s : List UInt8).drop 1 = 105 :: 102 :: 32 :: s := rfl
 simp only [e1]
 rw [toks_tok (List.cons_ne_nil _ _) (by kernel_rfl), n2, List.map_cons]
 have e2 : (105 :: 102 :: 32 :: s : List UInt8).drop 2 = 32 :: s := rfl
 simp only [e2]
 rw [toks_blank (by rw [n3]; omega), n3]
 rfl
theorem if_lines (s : List UInt8) (h : ∀ c ∈ s, c ≠ 10 ∧ c ≠ 92 ∧ c ≠ 47 ∧ c ≠ 34 ∧ c ≠ 39) : (linesOf (tokens 0 (ifLine s ++ 10 :: iR))).map lk = [(2, (toks 4 true s).map ptk), (1, [(1, iY, false)]), (6, []), (1, [(1, iN, false)]), (7, [])] := by
 have c92 : ∀ c ∈ ifLine s, c ≠ 92 ∧ c ≠ 47 := by
  intro c hc
  simp only [ifLine, List.mem_cons] at hc
  rcases hc with rfl | rfl | rfl | rfl | hc
  ·decide
  ·decide
  ·decide
  ·decide
  ·exact ⟨(h c hc).2.1, (h c hc).2.2.1⟩
 have n1 : ∀ c ∈ ifLine s ++ 10 :: iR, c ≠ 92 := by
  intro c hc
  rcases List.mem_append.1 hc with hc | hc
  ·exact (c92 c hc).1
  ·exact (show ∀ c ∈ (10 :: iR : List UInt8), c ≠ 92 by decide) c hc
 obtain ⟨bl, e⟩ := tokens_cut 0 0 0 (ifLine s) iR n1 (fun c hc => (c92 c hc).2)
 have h7 : ∀ x ∈ ((5, [35], false) :: (1, [105, 102], false) :: (toks 4 true s).map ptk : List Key), x.1 ≠ 7 := by
  intro x hx
  simp only [List.mem_cons] at hx
  rcases hx with rfl | rfl | hx
  ·show (5 : Int) ≠ 7; omega
  ·show (1 : Int) ≠ 7; omega
  ·obtain ⟨p, hp, rfl⟩ := List.mem_map.1 hx
   exact (toks_kinds s.length 4 true s (Nat.le_refl _) (fun c hc => ⟨(h c hc).1, (h c hc).2.2.2.2⟩) p hp).1
 rw [lines_keys, e, tokens_no92 0 (ifLine s) (fun c hc => (c92 c hc).1), toks_if, keys_iR, cutK_app _ rfl _ _ _ h7]
 rfl
theorem kt_of_tk {l : List GTok} {K : List Key} (h : l.map tk = K) : l.map kt = K.map fun k => (k.1, k.2.1) := by
 rw [← h, List.map_map]; rfl
theorem holds_if (f : GUnit_file) (files : List GFile) (told : List GTok) (inc p q : Int) (A : List GTok) : unit_file_holds f (GUnit_run.mk files [] told inc) (GLine.mk 2 p q A) = (ifexpr_Defined A []).bind fun r_3 => if (!decide (r_3.2 = (0 : Int))) = true then some (false, r_3.2) else (expand_Expand [] r_3.1).bind fun r_4 => if (!decide (r_4.2 = (0 : Int))) = true then some (false, r_4.2) else (ifexpr_Eval r_4.1).bind fun r_5 => some ((!decide (r_5.1 = (0 : Int))), r_5.2) := by
 have hn : unit_run_names (GUnit_run.mk files [] told inc) = some ([], []) := by kernel_rfl
 unfold unit_file_holds
 simp only
 rw [if_neg (by simp), if_neg (by simp)]
 unfold unit_file_holds_j2
 simp only
 rw [if_neg (by simp)]
 unfold unit_file_holds_j1
 rw [hn, Option.bind_some]
theorem holds_else (f : GUnit_file) (run : GUnit_run) (p q : Int) (A : List GTok) : unit_file_holds f run (GLine.mk 6 p q A) = some (true, 0) := by kernel_rfl
def oneWord (w : List UInt8) (n : Int) (files : List GFile) (f : GUnit_file) : Prop := ∃ t : GTok, t.kind = 1 ∧ t.text = w ∧ t.blank = true ∧ unit_file_itemsF (unitN 36) f (GUnit_run.mk files [] [] 0) (List.map upL [{ line_ := n, end_ := n }]) = some (none, GUnit_run.mk files [] [t] 0)
theorem one_word {w : List UInt8} {n : Int} {files : List GFile} {f : GUnit_file} {ln : GLine} (hl : ix f.lines n = some ln) (hk : ln.kind = 1) (ht : ln.toks.map tk = [(1, w, false)]) : oneWord w n files f := by
 obtain ⟨x, a, b, r, e, e2⟩ := cons_tok ht
 obtain rfl := List.map_eq_nil_iff.1 e2
 refine ⟨GTok.mk 1 w x a b true, rfl, rfl, rfl, ?_⟩
 have d1 : unit_file_text f (GUnit_run.mk files [] [] 0) [{ line_ := n, end_ := n, branches := [] }] = some (none, GUnit_run.mk files [] [GTok.mk 1 w x a b true] 0) := by
  rw [text_one (ln := ln) hl (by rw [e]; simp), e]
  exact text_single (ns := []) (ms := []) (by kernel_rfl) (Expand_nil _ (by simp) (by
   intro t ht
   rw [List.mem_singleton.1 ht]
   show (1 : Int) ≠ 7
   omega)) rfl rfl
 have g := item_text (R := unitN 36) (f := f) (L := [{ line_ := n, end_ := n, branches := [] }]) (i := 0) (by simp) (by simp) (by
  intro j j1 j2
  simp only [List.length_cons, List.length_nil] at j2
  obtain rfl : j = 0 := by omega
  exact ⟨_, ln, rfl, rfl, hl, hk⟩) d1
 exact items_of ((Goes.done items_end).next g) (by omega)
theorem if_comes (s : List UInt8) (h : ∀ c ∈ s, c ≠ 10 ∧ c ≠ 92 ∧ c ≠ 47 ∧ c ≠ 34 ∧ c ≠ 39) (hl : s.length ≤ 100) :
  ∃ o e v, ifexpr_Defined (tokens 0 s) [] = some (o, e) ∧ ifexpr_Eval o = some v ∧ emendtop_comes (ifLine s ++ 10 :: iR) [] = some (if e ≠ 0 then ([], e) else if v.2 ≠ 0 then ([], v.2) else if v.1 ≠ 0 then (iY, 0) else (iN, 0)) := by
 have e := if_lines s h
 have hsl : (ifLine s ++ 10 :: iR).length ≤ 300 := by
  simp only [List.length_append, List.length_cons, ifLine, iR, List.length_nil]
  omega
 generalize hT : ifLine s ++ 10 :: iR = T at *
 have et := tokens_eq 0 T (by omega)
 have hlt := tokens_len 0 T
 have el := lines_eq (tokens 0 T) (by omega)
 obtain ⟨l0, r0, e0, k0, e⟩ := List.map_eq_cons_iff.1 e
 obtain ⟨l1, r1, e1, k1, e⟩ := List.map_eq_cons_iff.1 e
 obtain ⟨l2, r2, e2, k2, e⟩ := List.map_eq_cons_iff.1 e
 obtain ⟨l3, r3, e3, k3, e⟩ := List.map_eq_cons_iff.1 e
 obtain ⟨l4, e4, k4⟩ := List.map_eq_singleton_iff.1 e
 rw [e0, e1, e2, e3, e4] at el
 obtain ⟨k0, t0⟩ := oneline_keys k0
 obtain ⟨k1, t1⟩ := oneline_keys k1
 obtain ⟨k2, t2⟩ := oneline_keys k2
 obtain ⟨k3, t3⟩ := oneline_keys k3
 obtain ⟨k4, t4⟩ := oneline_keys k4
 have hp := parse_ifelse l0 l1 l2 l3 l4 k0 k1 k2 k3 k4
 obtain ⟨K0, p0, q0, A⟩ := l0
 obtain ⟨K2, p2, q2, A2⟩ := l2
 simp only at k0 t0 k2
 subst k0
 subst k2
 -- the tokens of the condition
 have hs92 : (tokens 0 s).map tk = (toks 0 false s).map ptk := tokens_no92 0 s (fun c hc => (h c hc).2.1)
 have hkt : A.map kt = (tokens 0 s).map kt := by
  rw [kt_of_tk t0, kt_of_tk hs92, List.map_map, List.map_map]
  exact toks_blanks s.length 4 0 true false s (Nat.le_refl _)
 have hlA := kt_len hkt
 have hls := tokens_len 0 s
 have hroom := tokens_room 0 s
 have hg : ∀ t ∈ tokens 0 s, Good t := by
  intro t ht
  have hm : tk t ∈ (tokens 0 s).map tk := List.mem_map_of_mem ht
  rw [hs92] at hm
  obtain ⟨p, hp, e⟩ := List.mem_map.1 hm
  have e1 : p.kind = t.kind := by simp only [ptk, tk, Prod.mk.injEq] at e; exact e.1
  have hk := toks_kinds s.length 0 false s (Nat.le_refl _) (fun c hc => ⟨(h c hc).1, (h c hc).2.2.2.2⟩) p hp
  have f1 : (printT [t]).length ≤ (printT (tokens 0 s)).length := printT_sub1 ht
  have f2 : t.text.length ≤ (printT [t]).length := by simp [printT, printOne]
  exact ⟨by rw [← e1]; exact hk.1, by rw [← e1]; exact hk.2, by omega⟩
 have hgA : ∀ t ∈ A, Good t := kt_all hkt.symm hg
 obtain ⟨oA, o, er, d1, d2, d3, d4, d5⟩ := defined_two A (tokens 0 s) hkt (by omega) hgA
 obtain ⟨v, v1, v2⟩ := eval_two oA o d3 (by omega) d5
 refine ⟨o, er, v, d2, v2, ?_⟩
 have hx := Expand_nil oA (by omega) (fun t ht => (d5 t ht).1)
 -- the run
 obtain ⟨f, hf⟩ : ∃ f, f = GUnit_file.mk 0 [GLine.mk 2 p0 q0 A, l1, GLine.mk 6 p2 q2 A2, l3, l4] 1 := ⟨_, rfl⟩
 have x0 : ix f.lines 0 = some (GLine.mk 2 p0 q0 A) := by rw [hf]; rfl
 have x1 : ix f.lines 1 = some l1 := by rw [hf]; rfl
 have x2 : ix f.lines 2 = some (GLine.mk 6 p2 q2 A2) := by rw [hf]; rfl
 have x3 : ix f.lines 3 = some l3 := by rw [hf]; rfl
 have hh : unit_file_holds f (GUnit_run.mk [GFile.mk [97, 46, 99] T] [] [] 0) (GLine.mk 2 p0 q0 A) = some (if er ≠ 0 then (false, er) else ((!decide (v.1 = 0)), v.2)) := by
  rw [holds_if, d1, Option.bind_some]
  simp only
  by_cases hz : er = 0
  ·rw [if_neg (by simpa using hz), if_neg (by simpa using hz), hx, Option.bind_some]
   simp only
   rw [if_neg (by simp), v1, Option.bind_some]
  ·rw [if_pos (by simpa using hz), if_pos hz]
 have hfd : unit_Find [GFile.mk [97, 46, 99] T] [97, 46, 99] = some 0 := by kernel_rfl
 have main : ∀ (e : Option GFault) (run : GUnit_run), unit_file_branchesF (unitN 37) f (GUnit_run.mk [GFile.mk [97, 46, 99] T] [] [] 0) [{ line_ := 0, items := [{ line_ := 1, end_ := 1 }] }, { line_ := 2, items := [{ line_ := 3, end_ := 3 }] }] = some (e, run) → emendtop_comes T [] = (emendref07_Text (runOut run e).1 false).bind fun r => some (r, (runOut run e).2.e) := by
  intro e run hb
  have hi := item_br (R := unitN 38) (f := f) (L := [{ line_ := 0, end_ := 4, branches := [{ line_ := 0, items := [{ line_ := 1, end_ := 1 }] }, { line_ := 2, items := [{ line_ := 3, end_ := 3 }] }] }]) (i := 0) (run := GUnit_run.mk [GFile.mk [97, 46, 99] T] [] [] 0) (run' := run) (e := e) rfl (by simp) (by omega) (by omega) (by simp) hb
  have hitems : unit_file_itemsF (unitN 38) f (GUnit_run.mk [GFile.mk [97, 46, 99] T] [] [] 0) [{ line_ := 0, end_ := 4, branches := [{ line_ := 0, items := [{ line_ := 1, end_ := 1 }] }, { line_ := 2, items := [{ line_ := 3, end_ := 3 }] }] }] = some (e, run) := by
   cases e with
   | none => exact items_of ((Goes.done items_end).next hi) (by omega)
   | some fa => exact items_of (Goes.done hi) (by omega)
  have hrun : unit_Run [GFile.mk [97, 46, 99] T] [97, 46, 99] [] = some (runOut run e) := by
   refine run_of (run := run) (e := e) hfd (by omega) ?_
   refine file_step (R := unitN 39) (run := GUnit_run.mk [GFile.mk [97, 46, 99] T] [] [] 0) (number := 0) (deep := 1) (y := GFile.mk [97, 46, 99] T) rfl et el hp ?_
   rw [← hf]
   exact hitems
  unfold emendtop_comes
  rw [show emendtop_one T = some [GFile.mk [97, 46, 99] T] from rfl, Option.bind_some, hrun, Option.bind_some]
 have hno : emendref07_Text [] false = some [] := by kernel_rfl
 have htok : ∀ (w : List UInt8), (∀ x a b, emendref07_Text [GTok.mk 1 w x a b true] false = some w) → ∀ t : GTok, t.kind = 1 → t.text = w → t.blank = true → emendref07_Text [t] false = some w := by
  rintro w hw ⟨k, tx, x, a, b, bl⟩ h1 h2 h3
  simp only at h1 h2 h3
  subst h1; subst h2; subst h3
  exact hw x a b
 have hyes := htok iY (fun x a b => by kernel_rfl)
 have hnot := htok iN (fun x a b => by kernel_rfl)
 by_cases hz : er = 0
 ·rw [if_neg (by simpa using hz)]
  rw [if_neg (by simpa using hz)] at hh
  by_cases hv : v.2 = 0
  ·rw [if_neg (by simpa using hv)]
   rw [hv] at hh
   by_cases hn : v.1 = 0
   ·rw [if_neg (by simpa using hn)]
    rw [decide_eq_true hn] at hh
    obtain ⟨t, a1, a2, a3, a4⟩ := one_word (w := iN) (n := 3) (files := [GFile.mk [97, 46, 99] T]) (f := f) x3 k3 t3
    rw [main none _ (branch_two x0 hh x2 (holds_else _ _ _ _ _) a4)]
    show ((emendref07_Text [t] false).bind fun r => some (r, (0 : Int))) = _
    rw [hnot t a1 a2 a3]
    rfl
   ·rw [if_pos hn]
    rw [decide_eq_false hn] at hh
    obtain ⟨t, a1, a2, a3, a4⟩ := one_word (w := iY) (n := 1) (files := [GFile.mk [97, 46, 99] T]) (f := f) x1 k1 t1
    rw [main none _ (branch_hit x0 hh a4)]
    show ((emendref07_Text [t] false).bind fun r => some (r, (0 : Int))) = _
    rw [hyes t a1 a2 a3]
    rfl
  ·rw [if_pos hv]
   rw [main (some _) _ (branch_wrong x0 hh hv)]
   show ((emendref07_Text [] false).bind fun r => some (r, v.2)) = _
   rw [hno]
   rfl
 ·rw [if_pos hz]
  rw [if_pos hz] at hh
  rw [main (some _) _ (branch_wrong x0 hh hz)]
  show ((emendref07_Text [] false).bind fun r => some (r, er)) = _
  rw [hno]
  rfl
theorem ifText_eq (s : List UInt8) : (([35, 105, 102, 32] : List UInt8) ++ s) ++ emendtop_TopIf_l0 = ifLine s ++ 10 :: iR := by
 simp [ifLine, iR, emendtop_TopIf_l0]
theorem topIf_law (s : List UInt8) : emendtop_TopIf s = some true := by
 unfold emendtop_TopIf
 rw [alive_is, Option.bind_some, plain_eq s 100 _ (by omega) (by decide), Option.bind_some]
 by_cases h : (s.length : Int) ≤ 100 ∧ ∀ c ∈ s, c ∉ ([10, 92, 47, 34, 39] : List UInt8)
 ·rw [decide_eq_true h, if_neg (by decide)]
  have hl : s.length ≤ 100 := by omega
  obtain ⟨o, e, v, d, w, c⟩ := if_comes s (fun c hc => by
   have := h.2 c hc
   simp only [List.mem_cons, List.not_mem_nil, or_false, not_or] at this
   exact this) hl
  rw [tokens_eq 0 s (by omega), Option.bind_some, d, Option.bind_some]
  rw [chkT (by simp only [List.length_cons, List.length_nil]; omega), chkT (by simp only [List.length_append, emendtop_TopIf_l0, List.length_cons, List.length_nil]; omega), ifText_eq, c, Option.bind_some]
  simp only
  by_cases hz : e = 0
  ·rw [if_neg (by simpa using hz), w, Option.bind_some, if_neg (show ¬ e ≠ 0 by simpa using hz)]
   by_cases hv : v.2 = 0
   ·rw [if_neg (by simpa using hv), if_neg (show ¬ v.2 ≠ 0 by simpa using hv)]
    by_cases hn : v.1 = 0
    ·rw [if_neg (show ¬ v.1 ≠ 0 by simpa using hn), hn]
     decide
    ·rw [if_pos hn]
     simp only [andO_some, orO_some, Option.bind_some, decide_eq_false hn]
     decide
   ·rw [if_pos (by simpa using hv), if_pos hv]
    simp [andO]
  ·rw [if_pos (by simpa using hz), if_pos hz]
   simp [andO]
 ·rw [decide_eq_false h, if_pos (by decide)]
end Go.Sh
