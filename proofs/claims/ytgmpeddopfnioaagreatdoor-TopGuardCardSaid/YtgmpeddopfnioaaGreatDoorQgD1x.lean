/-
  Part of the proof of Guard.
-/
import Derived.Test.YtgmpeddopfnioaaGreatDoorQgA7sx
import Derived.Lib.Replace
import Derived.Test.YtgmpeddopfnioaaGreatDoorQgPlx
import Derived.KernelRfl
import Derived.Test.YtgmpeddopfnioaaGreatDoorQgSox
set_option linter.unusedVariables false
set_option linter.unusedSimpArgs false
namespace Go.Sh
open Go
end Go.Sh
set_option linter.unusedVariables false
set_option linter.unusedSimpArgs false
namespace Go.Sh
open Go
end Go.Sh
set_option linter.unusedVariables false
set_option linter.unusedSimpArgs false
namespace Go.Sh
open Go
theorem alive_is : emendtop_alive = some true := by kernel_rfl
theorem plainIn_eq (s signs : List UInt8) (i : Nat) (hi : i < s.length) (h2 : signs.length ≤ 1000) : ∃ r, loopS (emendtop_plain_b4 s signs (i : Int)) (0 : Int) = some r ∧ ((r = .inl () ∧ s[i] ∉ signs) ∨ (r = .inr false ∧ s[i] ∈ signs)) := by
  refine loopS_ix (f := emendtop_plain_b4 s signs (i : Int)) signs.length (by omega) (fun k x => x = (k : Int) ∧ s[i] ∉ signs.take k) _ (s0 := (0 : Int)) ⟨rfl, by simp⟩ ?_ ?_
  · rintro k x hk ⟨rfl, hn⟩
    unfold emendtop_plain_b4
    rw [if_pos (decide_eq_true (by omega)), ix_at hi, Option.bind_some, ix_at hk, Option.bind_some]
    by_cases e : s[i] = signs[k]
    · right
      rw [if_pos (decide_eq_true (by rw [e]))]
      exact ⟨_, rfl, .inr ⟨rfl, by rw [e]; exact List.getElem_mem hk⟩⟩
    · left
      rw [if_neg (by simpa [u8i] using e), chkT (by omega)]
      refine ⟨_, rfl, by push_cast; rfl, fun hm => ?_⟩
      rw [List.take_add_one, List.getElem?_eq_getElem hk] at hm
      rcases List.mem_append.1 hm with hm | hm
      · exact hn hm
      · exact e (List.mem_singleton.1 hm)
  · rintro x ⟨rfl, hn⟩
    rw [List.take_length] at hn
    refine ⟨.inl (), ?_, .inl ⟨rfl, hn⟩⟩
    unfold emendtop_plain_b4
    exact if_neg (by simp)
theorem plain_eq (s : List UInt8) (n : Int) (signs : List UInt8) (hn : n ≤ 1000) (h2 : signs.length ≤ 1000) : emendtop_plain s n signs = some (decide ((s.length : Int) ≤ n ∧ ∀ c ∈ s, c ∉ signs)) := by
  unfold emendtop_plain
  by_cases hl : (s.length : Int) ≤ n
  · rw [if_neg (by simpa using hl)]
    obtain ⟨r, g1, g2⟩ := loopS_ix (f := emendtop_plain_b2 s signs) s.length (by omega) (fun k x => x = (k : Int) ∧ ∀ c ∈ s.take k, c ∉ signs) (fun r => (r = .inl () ∧ ∀ c ∈ s, c ∉ signs) ∨ (r = .inr false ∧ ¬ ∀ c ∈ s, c ∉ signs)) (s0 := (0 : Int)) ⟨rfl, by simp⟩ (by
      rintro k x hk ⟨rfl, hn2⟩
      unfold emendtop_plain_b2
      rw [if_pos (decide_eq_true (by omega))]
      obtain ⟨q, q1, q2⟩ := plainIn_eq s signs k hk h2
      rw [q1, Option.bind_some]
      rcases q2 with ⟨rfl, q2⟩ | ⟨rfl, q2⟩
      · left
        simp only [emendtop_plain_j3]
        rw [chkT (by omega)]
        refine ⟨_, rfl, by push_cast; rfl, fun c hc => ?_⟩
        rw [List.take_add_one, List.getElem?_eq_getElem hk] at hc
        rcases List.mem_append.1 hc with hc | hc
        · exact hn2 c hc
        · rw [List.mem_singleton.1 hc]; exact q2
      · right
        exact ⟨_, rfl, .inr ⟨rfl, fun h => h _ (List.getElem_mem hk) q2⟩⟩) (by
      rintro x ⟨rfl, hn2⟩
      rw [List.take_length] at hn2
      refine ⟨.inl (), ?_, .inl ⟨rfl, hn2⟩⟩
      unfold emendtop_plain_b2
      exact if_neg (by simp))
    rw [g1, Option.bind_some]
    rcases g2 with ⟨rfl, g2⟩ | ⟨rfl, g2⟩
    · rw [decide_eq_true ⟨hl, g2⟩]; rfl
    · rw [decide_eq_false (fun h => g2 h.2)]
  · rw [if_pos (decide_eq_true (by omega)), decide_eq_false (fun h => hl h.1)]
end Go.Sh
set_option linter.unusedVariables false
set_option linter.unusedSimpArgs false
namespace Go.Sh
open Go
theorem piecesF_ge : ∀ (l : List GTok) (f i : Nat), f ≤ i → ∀ p ∈ piecesF f i l, (f : Int) ≤ p.1
  | [], f, i, h, p, hp => by
    unfold piecesF at hp; split at hp
    · simp at hp; subst hp; exact Int.le_refl _
    · simp at hp
  | t :: r, f, i, h, p, hp => by
    unfold piecesF at hp; split at hp
    · rcases List.mem_cons.1 hp with rfl | hp
      · exact Int.le_refl _
      · have := piecesF_ge r (i + 1) (i + 1) (Nat.le_refl _) p hp; omega
    · exact piecesF_ge r f (i + 1) (by omega) p hp
theorem piecesF_app (t : GTok) (ht : t.kind = 7) (b : List GTok) : ∀ (a : List GTok) (f i : Nat), (∀ x ∈ a, x.kind ≠ 7) → piecesF f i (a ++ t :: b) = ((f : Int), ((i + a.length : Nat) : Int)) :: piecesF (i + a.length + 1) (i + a.length + 1) b
  | [], f, i, _ => by rw [List.nil_append, piecesF, if_pos ht]; rfl
  | x :: a, f, i, h => by
    rw [List.cons_append, piecesF, if_neg (h x (by simp)), piecesF_app t ht b a f (i + 1) (fun y hy => h y (by simp [hy]))]
    rw [List.length_cons, show i + 1 + a.length = i + (a.length + 1) by omega]
theorem piecesF_last : ∀ (a : List GTok) (f i : Nat), (∀ x ∈ a, x.kind ≠ 7) → piecesF f i a = if f < i + a.length then [((f : Int), ((i + a.length : Nat) : Int))] else []
  | [], f, i, _ => rfl
  | x :: a, f, i, h => by
    rw [piecesF, if_neg (h x (by simp)), piecesF_last a f (i + 1) (fun y hy => h y (by simp [hy])), List.length_cons, show i + 1 + a.length = i + (a.length + 1) by omega]
def linesAt (n : Nat) (l : List GTok) : List GLine := (piecesF n n l).map fun p => lineOf ((l.drop (p.1.toNat - n)).take (p.2.toNat - p.1.toNat)) p.1
theorem linesAt_nil (n : Nat) : linesAt n [] = [] := by unfold linesAt piecesF; rw [if_neg (Nat.lt_irrefl _)]; rfl
theorem linesAt_cut (n : Nat) (a : List GTok) (ha : ∀ x ∈ a, x.kind ≠ 7) (t : GTok) (ht : t.kind = 7) (b : List GTok) : linesAt n (a ++ t :: b) = lineOf a n :: linesAt (n + a.length + 1) b := by
  unfold linesAt
  rw [piecesF_app t ht b a n n ha, List.map_cons]
  congr 1
  · simp only [Int.toNat_natCast, Nat.sub_self, List.drop_zero]
    rw [show n + a.length - n = a.length by omega, List.take_left' rfl]
  · refine List.map_congr_left fun p hp => ?_
    have h1 := piecesF_ge b _ _ (Nat.le_refl _) p hp
    have e : (a ++ t :: b).drop (p.1.toNat - n) = b.drop (p.1.toNat - (n + a.length + 1)) := by
      rw [show p.1.toNat - n = (a ++ [t]).length + (p.1.toNat - (n + a.length + 1)) by simp only [List.length_append, List.length_singleton]; omega]
      rw [show a ++ t :: b = (a ++ [t]) ++ b by simp, List.drop_append]
      simp
    rw [e]
theorem linesAt_last (n : Nat) (a : List GTok) (ha : ∀ x ∈ a, x.kind ≠ 7) (h0 : a ≠ []) : linesAt n a = [lineOf a n] := by
  have hp : 0 < a.length := List.length_pos_iff.2 h0
  unfold linesAt
  rw [piecesF_last a n n ha, if_pos (by omega), List.map_singleton]
  simp only [Int.toNat_natCast, Nat.sub_self, List.drop_zero]
  rw [show n + a.length - n = a.length by omega, List.take_length]
end Go.Sh
set_option linter.unusedVariables false
set_option linter.unusedSimpArgs false
namespace Go.Sh
open Go
theorem tokens_no92 (f : Int) (s : List UInt8) (h : ∀ c ∈ s, c ≠ 92) : (tokens f s).map tk = (toks 0 false s).map ptk := by
  rw [tokens_tk, charsAt_no92 s 0 h]
theorem tokens_cut (f g g2 : Int) (a b : List UInt8) (h92 : ∀ c ∈ a ++ 10 :: b, c ≠ 92) (h47 : ∀ c ∈ a, c ≠ 47) : ∃ bl, (tokens f (a ++ 10 :: b)).map tk = (tokens g a).map tk ++ (7, [10], bl) :: (tokens g2 b).map tk := by
  rw [tokens_no92 f _ h92, tokens_no92 g a (fun c hc => h92 c (by simp [hc])), tokens_no92 g2 b (fun c hc => h92 c (by simp [hc]))]
  obtain ⟨i2, b2, e⟩ := toks_line b a.length 0 0 false a (Nat.le_refl _) h47
  refine ⟨b2, ?_⟩
  have h0 : blankLen (10 :: b) = 0 := by simp [blankLen, isWS]
  have hn : nextTok (10 :: b) = (7, 1) := by unfold nextTok; exact if_pos rfl
  rw [e, toks_tok (List.cons_ne_nil _ _) h0, hn, List.map_cons]
  congr 2
  exact toks_shift b.length _ _ _ _ (Nat.le_refl _)
end Go.Sh
set_option linter.unusedVariables false
set_option linter.unusedSimpArgs false
namespace Go.Sh
open Go
abbrev Key := Int × List UInt8 × Bool
def lk (x : GLine) : Int × List Key := (x.kind, x.toks.map tk)
def lineK : List Key → Int × List Key
  | [] => (1, [])
  | t :: r => if t.1 = 5 ∧ t.2.1 = [35] then (match r with
      | [] => (14, [])
      | u :: r2 => if u.1 = 1 ∧ kindOf u.2.1 ≠ 0 then (kindOf u.2.1, r2) else (15, u :: r2)) else (1, t :: r)
def cutK : List Key → List Key → List (List Key)
  | a, [] => if a = [] then [] else [a]
  | a, t :: r => if t.1 = 7 then a :: cutK [] r else cutK (a ++ [t]) r
theorem lk_lineOf (a : List GTok) (n : Int) : lk (lineOf a n) = lineK (a.map tk) := by
  match a with
  | [] => rfl
  | [t] =>
    by_cases h : t.kind = 5 ∧ t.text = [35]
    · simp only [lineOf, if_pos h, List.map_cons, List.map_nil, lineK, tk]; rfl
    · simp only [lineOf, if_neg h, List.map_cons, List.map_nil, lineK, tk]; rfl
  | t :: u :: r =>
    by_cases h : t.kind = 5 ∧ t.text = [35]
    · by_cases h2 : u.kind = 1 ∧ kindOf u.text ≠ 0
      · simp only [lineOf, if_pos h, if_pos h2, List.map_cons, lineK, tk]; rfl
      · simp only [lineOf, if_pos h, if_neg h2, List.map_cons, lineK, tk]; rfl
    · simp only [lineOf, if_neg h, List.map_cons, lineK, tk]; rfl
theorem linesAt_keys : ∀ (l a : List GTok) (n : Nat), (∀ x ∈ a, x.kind ≠ 7) → (linesAt n (a ++ l)).map lk = (cutK (a.map tk) (l.map tk)).map lineK
  | [], a, n, h => by
    rw [List.append_nil, List.map_nil, cutK]
    by_cases e : a = []
    · subst e; rw [linesAt_nil]; rfl
    · rw [linesAt_last n a h e, if_neg (by simpa using e), List.map_singleton, List.map_singleton, lk_lineOf]
  | t :: r, a, n, h => by
    rw [List.map_cons, cutK]
    by_cases e : t.kind = 7
    · rw [linesAt_cut n a h t e r, if_pos (show (tk t).1 = 7 from e), List.map_cons, List.map_cons, lk_lineOf]
      exact congrArg _ (linesAt_keys r [] _ (by simp))
    · rw [if_neg (show ¬ (tk t).1 = 7 from e), show a ++ t :: r = (a ++ [t]) ++ r by simp, linesAt_keys r (a ++ [t]) n (fun x hx => by
        rcases List.mem_append.1 hx with hx | hx
        · exact h x hx
        · rw [List.mem_singleton.1 hx]; exact e), List.map_append, List.map_singleton]
theorem lines_keys (l : List GTok) : (linesOf l).map lk = (cutK [] (l.map tk)).map lineK := linesAt_keys l [] 0 (by simp)
theorem cutK_app (t : Key) (ht : t.1 = 7) (b : List Key) : ∀ (c a : List Key), (∀ x ∈ c, x.1 ≠ 7) → cutK a (c ++ t :: b) = (a ++ c) :: cutK [] b
  | [], a, _ => by rw [List.nil_append, cutK, if_pos ht, List.append_nil]
  | x :: c, a, h => by rw [List.cons_append, cutK, if_neg (h x (by simp)), cutK_app t ht b c (a ++ [x]) (fun y hy => h y (by simp [hy]))]; simp
end Go.Sh
set_option linter.unusedVariables false
set_option linter.unusedSimpArgs false
namespace Go.Sh
open Go
theorem closed_keys {t : List UInt8} {k : List Key} (ht : t.length ≤ 2000000) (h : (pptok_Tokens 0 t).map (List.map tk) = some k) : (tokens 0 t).map tk = k := by
  rw [tokens_eq 0 t ht] at h
  exact Option.some.inj h
def gA : List UInt8 := [35, 105, 102, 110, 100, 101, 102, 32, 71, 95]
def gB : List UInt8 := [35, 100, 101, 102, 105, 110, 101, 32, 71, 95]
def gC : List UInt8 := [35, 101, 110, 100, 105, 102]
def gN : List UInt8 := [71, 95]
theorem keys_gA : (tokens 0 gA).map tk = [(5, [35], false), (1, [105, 102, 110, 100, 101, 102], false), (1, gN, true)] := closed_keys (by decide) (by kernel_rfl)
theorem keys_gB : (tokens 0 gB).map tk = [(5, [35], false), (1, [100, 101, 102, 105, 110, 101], false), (1, gN, true)] := closed_keys (by decide) (by kernel_rfl)
theorem keys_gC : (tokens 0 gC).map tk = [(5, [35], false), (1, [101, 110, 100, 105, 102], false)] := closed_keys (by decide) (by kernel_rfl)
def guarded (s : List UInt8) : List UInt8 := gA ++ 10 :: (gB ++ 10 :: (s ++ 10 :: (gC ++ 10 :: [])))
theorem guarded_keys (f : Int) (s : List UInt8) (h : ∀ c ∈ s, c ≠ 92 ∧ c ≠ 47) : ∃ b1 b2 b3 b4, (tokens f (guarded s)).map tk =
    [(5, [35], false), (1, [105, 102, 110, 100, 101, 102], false), (1, gN, true)] ++ (7, [10], b1) :: ([(5, [35], false), (1, [100, 101, 102, 105, 110, 101], false), (1, gN, true)] ++ (7, [10], b2) :: ((tokens 0 s).map tk ++ (7, [10], b3) :: ([(5, [35], false), (1, [101, 110, 100, 105, 102], false)] ++ (7, [10], b4) :: []))) := by
  have n92 : ∀ c ∈ guarded s, c ≠ 92 := by
    intro c hc
    unfold guarded at hc
    simp only [List.mem_append, List.mem_cons, List.not_mem_nil, or_false] at hc
    rcases hc with hc | rfl | hc | rfl | hc | rfl | hc | rfl
    · exact (show ∀ c ∈ gA, c ≠ 92 by decide) c hc
    · decide
    · exact (show ∀ c ∈ gB, c ≠ 92 by decide) c hc
    · decide
    · exact (h c hc).1
    · decide
    · exact (show ∀ c ∈ gC, c ≠ 92 by decide) c hc
    · decide
  unfold guarded at n92 ⊢
  have n2 : ∀ c ∈ gB ++ 10 :: (s ++ 10 :: (gC ++ 10 :: [])), c ≠ 92 := fun c hc => n92 c (List.mem_append.2 (.inr (List.mem_cons_of_mem _ hc)))
  have n3 : ∀ c ∈ s ++ 10 :: (gC ++ 10 :: []), c ≠ 92 := fun c hc => n2 c (List.mem_append.2 (.inr (List.mem_cons_of_mem _ hc)))
  have n4 : ∀ c ∈ gC ++ 10 :: [], c ≠ 92 := fun c hc => n3 c (List.mem_append.2 (.inr (List.mem_cons_of_mem _ hc)))
  obtain ⟨b1, e1⟩ := tokens_cut f 0 0 gA _ n92 (by decide)
  obtain ⟨b2, e2⟩ := tokens_cut 0 0 0 gB _ n2 (by decide)
  obtain ⟨b3, e3⟩ := tokens_cut 0 0 0 s _ n3 (fun c hc => (h c hc).2)
  obtain ⟨b4, e4⟩ := tokens_cut 0 0 0 gC _ n4 (by decide)
  refine ⟨b1, b2, b3, b4, ?_⟩
  rw [e1, e2, e3, e4, keys_gA, keys_gB, keys_gC]
  have e0 : (tokens 0 ([] : List UInt8)).map tk = [] := closed_keys (by decide) (by kernel_rfl)
  rw [e0]
end Go.Sh
set_option linter.unusedVariables false
set_option linter.unusedSimpArgs false
namespace Go.Sh
open Go
def cutN : List Key → List Key → List (List Key)
  | a, [] => [a]
  | a, t :: r => if t.1 = 7 then a :: cutN [] r else cutN (a ++ [t]) r
theorem cutK_end (t : Key) (ht : t.1 = 7) (r : List Key) : ∀ (l a : List Key), cutK a (l ++ t :: r) = cutN a l ++ cutK [] r
  | [], a => by rw [List.nil_append, cutK, if_pos ht]; rfl
  | x :: l, a => by
    rw [List.cons_append, cutK, cutN]
    by_cases h : x.1 = 7
    · rw [if_pos h, if_pos h, cutK_end t ht r l []]; rfl
    · rw [if_neg h, if_neg h, cutK_end t ht r l]
theorem cutN_mem : ∀ (l a : List Key), ∀ p ∈ cutN a l, ∀ k ∈ p, k ∈ a ∨ k ∈ l
  | [], a, p, hp, k, hk => by rw [cutN] at hp; rw [List.mem_singleton.1 hp] at hk; exact .inl hk
  | t :: r, a, p, hp, k, hk => by
    rw [cutN] at hp
    split at hp
    · rcases List.mem_cons.1 hp with rfl | hp
      · exact .inl hk
      · rcases cutN_mem r [] p hp k hk with h | h
        · cases h
        · exact .inr (List.mem_cons_of_mem _ h)
    · rcases cutN_mem r _ p hp k hk with h | h
      · rcases List.mem_append.1 h with h | h
        · exact .inl h
        · exact .inr (by rw [List.mem_singleton.1 h]; exact List.mem_cons_self ..)
      · exact .inr (List.mem_cons_of_mem _ h)
theorem lineK_text (p : List Key) (h : ∀ k ∈ p, k.2.1 ≠ [35]) : lineK p = (1, p) := by
  match p with
  | [] => rfl
  | t :: r => exact if_neg (fun e => h t (by simp) e.2)
theorem toks_in0 (n : Nat) : ∀ (i : Nat) (b : Bool) (u : List UInt8), u.length ≤ n → ∀ p ∈ toks i b u, ∀ c ∈ p.text, c ∈ u := by
  induction n with
  | zero => intro i b u hu p hp; have : u = [] := List.length_eq_zero_iff.1 (by omega); subst this; rw [toks_nil] at hp; cases hp
  | succ n ih =>
    intro i b u hu p hp c hc
    by_cases h0 : u = []
    · subst h0; rw [toks_nil] at hp; cases hp
    have hl : 0 < u.length := List.length_pos_iff.2 h0
    by_cases hb : 0 < blankLen u
    · rw [toks_blank hb] at hp
      exact List.mem_of_mem_drop (ih _ _ _ (by rw [List.length_drop]; omega) p hp c hc)
    · rw [toks_tok h0 (by omega)] at hp
      rcases List.mem_cons.1 hp with rfl | hp
      · exact List.mem_of_mem_take hc
      · have := nextTok_pos u
        exact List.mem_of_mem_drop (ih _ _ _ (by rw [List.length_drop]; omega) p hp c hc)
theorem keys_no35 (f : Int) (s : List UInt8) (h92 : ∀ c ∈ s, c ≠ 92) (h35 : ∀ c ∈ s, c ≠ 35) : ∀ k ∈ (tokens f s).map tk, k.2.1 ≠ [35] := by
  rw [tokens_no92 f s h92]
  intro k hk e
  obtain ⟨p, hp, rfl⟩ := List.mem_map.1 hk
  have := toks_in0 s.length 0 false s (Nat.le_refl _) p hp 35 (by rw [show p.text = [35] from e]; simp)
  exact h35 35 this rfl
theorem guarded_lines (f : Int) (s : List UInt8) (h : ∀ c ∈ s, c ≠ 35 ∧ c ≠ 92 ∧ c ≠ 47) : (linesOf (tokens f (guarded s))).map lk = (4, [(1, gN, true)]) :: (8, [(1, gN, true)]) :: ((cutN [] ((tokens 0 s).map tk)).map (fun p => (1, p)) ++ [(7, [])]) := by
  obtain ⟨b1, b2, b3, b4, e⟩ := guarded_keys f s (fun c hc => (h c hc).2)
  rw [lines_keys, e, cutK_app _ rfl _ _ _ (by decide), cutK_app _ rfl _ _ _ (by decide), cutK_end _ rfl, cutK_app _ rfl _ _ _ (by decide)]
  have h35 := keys_no35 0 s (fun c hc => (h c hc).2.1) (fun c hc => (h c hc).1)
  have ht : (cutN [] ((tokens 0 s).map tk)).map lineK = (cutN [] ((tokens 0 s).map tk)).map (fun p => (1, p)) := List.map_congr_left fun p hp => lineK_text p fun k hk => by
    rcases cutN_mem _ _ p hp k hk with h | h
    · cases h
    · exact h35 k h
  rw [List.map_cons, List.map_cons, List.map_append, ht]
  rfl
end Go.Sh
set_option linter.unusedVariables false
set_option linter.unusedSimpArgs false
namespace Go.Sh
open Go
def leavesFrom (i : Int) : Nat → List GLeaf
  | 0 => []
  | n + 1 => { line_ := i, end_ := i } :: leavesFrom (i + 1) n
theorem leavesFrom_len : ∀ (n : Nat) (i : Int), (leavesFrom i n).length = n
  | 0, _ => rfl
  | n + 1, i => by rw [leavesFrom, List.length_cons, leavesFrom_len n]
theorem parse_open (rest : List GLine) : ∀ (ls : List GLine) (i : Int) (o : POpen) (leaves : List GLeaf), (∀ l ∈ ls, l.kind < 2 ∨ 7 < l.kind) → parseFrom i (ls ++ rest) (.open_ o leaves) = parseFrom (i + ls.length) rest (.open_ o (leaves ++ leavesFrom i ls.length))
  | [], i, o, leaves, _ => by simp [leavesFrom]
  | l :: ls, i, o, leaves, h => by
    have hk := h l (by simp)
    rw [List.cons_append, parseFrom]
    have e : parseStep i l.kind (.open_ o leaves) = some (.open_ o (leaves ++ [{ line_ := i, end_ := i }])) := by
      unfold parseStep
      simp only
      rw [if_neg (by omega), if_neg (by omega), if_neg (by omega)]
    rw [e, Option.bind_some, parse_open rest ls (i + 1) o _ (fun x hx => h x (by simp [hx]))]
    rw [List.length_cons, leavesFrom, List.append_assoc]
    congr 1
    · push_cast; omega
theorem parse_block (l0 l9 : GLine) (mid : List GLine) (h0 : l0.kind = 2 ∨ l0.kind = 3 ∨ l0.kind = 4) (hm : ∀ l ∈ mid, l.kind < 2 ∨ 7 < l.kind) (h9 : l9.kind = 7) (hl : mid.length ≤ 900000000) :
    cond_Parse (l0 :: (mid ++ [l9])) = some ([{ line_ := 0, end_ := 1 + mid.length, branches := [{ line_ := 0, items := leavesFrom 1 mid.length }] }], 0, 0) := by
  unfold cond_Parse
  rw [chkT (by simp only [List.length_cons, List.length_append, List.length_nil]; omega), parseFrom]
  have e : parseStep 0 l0.kind (.shut []) = some (.open_ { line_ := 0, branches := [{ line_ := 0, items := [] }], last := false, ahead := [] } []) := by
    unfold parseStep; simp only; rw [if_pos h0]
  rw [e, Option.bind_some, parse_open [l9] mid _ _ _ hm, parseFrom]
  have e2 : ∀ (i : Int) (o : POpen) (lv : List GLeaf), parseStep i l9.kind (.open_ o lv) = some (.shut (o.ahead ++ [{ line_ := o.line_, end_ := i, branches := endB o.branches lv }])) := by
    intro i o lv
    unfold parseStep; simp only; rw [if_neg (by omega), if_neg (by omega), if_pos h9]
  rw [e2, Option.bind_some, parseFrom]
  simp [endB]
end Go.Sh
set_option linter.unusedVariables false
set_option linter.unusedSimpArgs false
namespace Go.Sh
open Go
def gM : GMacro := GMacro.mk gN false [] false []
theorem comes_gM (ms : List (List UInt8 × GMacro)) (s : Int) (hide : List (List UInt8)) : expand_work_comes (GExpand_work.mk ms s) gM [] hide = some (([], 0), GExpand_work.mk ms s) := by kernel_rfl
theorem replaced_gM (ms : List (List UInt8 × GMacro)) (s : Int) (y : GExpand_token) (r : List GExpand_token) (h0 : 0 ≤ s) (h1 : s < 1000) : expand_work_replaced (GExpand_work.mk ms s) gM (y :: r) = some (([], 0, 0), GExpand_work.mk ms (s + 1)) := by
  unfold expand_work_replaced
  rw [show ix (y :: r) 0 = some y from rfl, Option.bind_some]
  rw [if_neg (by decide)]
  unfold expand_work_replaced_j1
  simp only
  rw [if_neg (by simp; omega), chkT (by omega), if_neg (by decide)]
  unfold expand_work_replaced_j2
  simp only
  rw [comes_gM, Option.bind_some]
end Go.Sh
set_option linter.unusedVariables false
set_option linter.unusedSimpArgs false
namespace Go.Sh
open Go
theorem concatK_eq (x r : List GExpand_token) (h : x.length + r.length ≤ 1000000) : slices_Concat_Lexpand_token_expand_token [x, r] = some (x ++ r) := by
  unfold slices_Concat_Lexpand_token_expand_token
  obtain ⟨s, g1, g2⟩ := loopS_ix (f := slices_Concat_Lexpand_token_expand_token_b2 [x, r]) 2 (by omega) (fun k s => (k = 0 ∧ s = ((0 : Int), (0 : Int))) ∨ (k = 1 ∧ s = ((x.length : Int), (1 : Int))) ∨ (k = 2 ∧ s = (((x.length : Int) + (r.length : Int)), (2 : Int)))) (fun z => z = (x.length : Int) + (r.length : Int)) (s0 := ((0 : Int), (0 : Int))) (.inl ⟨rfl, rfl⟩) (by
    rintro k s hk (⟨rfl, rfl⟩ | ⟨rfl, rfl⟩ | ⟨rfl, rfl⟩)
    · left
      refine ⟨((x.length : Int), (1 : Int)), ?_, .inr (.inl ⟨rfl, rfl⟩)⟩
      unfold slices_Concat_Lexpand_token_expand_token_b2
      simp only
      rw [if_pos (by simp), show ix [x, r] 0 = some x from rfl, Option.bind_some, chkT (by omega), if_neg (by simp), chkT (by omega)]
      simp
    · left
      refine ⟨(((x.length : Int) + (r.length : Int)), (2 : Int)), ?_, .inr (.inr ⟨rfl, rfl⟩)⟩
      unfold slices_Concat_Lexpand_token_expand_token_b2
      simp only
      rw [if_pos (by simp), show ix [x, r] 1 = some r from rfl, Option.bind_some, chkT (by omega), if_neg (by simp; omega), chkT (by omega)]
      rfl
    · omega) (by
    rintro s (⟨h0, _⟩ | ⟨h0, _⟩ | ⟨_, rfl⟩)
    · omega
    · omega
    · refine ⟨_, ?_, rfl⟩
      unfold slices_Concat_Lexpand_token_expand_token_b2
      exact if_neg (by simp))
  rw [g1, Option.bind_some, g2]
  unfold slices_Concat_Lexpand_token_expand_token_j1
  rw [chkT (by omega)]
  obtain ⟨s2, g3, g4⟩ := loopS_ix (f := slices_Concat_Lexpand_token_expand_token_b4 [x, r]) 2 (by omega) (fun k s => (k = 0 ∧ s = ((0 : Int), ([] : List GExpand_token))) ∨ (k = 1 ∧ s = ((1 : Int), x)) ∨ (k = 2 ∧ s = ((2 : Int), x ++ r))) (fun z => z = x ++ r) (s0 := ((0 : Int), ([] : List GExpand_token))) (.inl ⟨rfl, rfl⟩) (by
    rintro k s hk (⟨rfl, rfl⟩ | ⟨rfl, rfl⟩ | ⟨rfl, rfl⟩)
    · left
      refine ⟨((1 : Int), x), ?_, .inr (.inl ⟨rfl, rfl⟩)⟩
      unfold slices_Concat_Lexpand_token_expand_token_b4
      simp only
      rw [if_pos (by simp), show ix [x, r] 0 = some x from rfl, Option.bind_some, chkT (by simp; omega), chkT (by omega)]
      rfl
    · left
      refine ⟨((2 : Int), x ++ r), ?_, .inr (.inr ⟨rfl, rfl⟩)⟩
      unfold slices_Concat_Lexpand_token_expand_token_b4
      simp only
      rw [if_pos (by simp), show ix [x, r] 1 = some r from rfl, Option.bind_some, chkT (by omega), chkT (by omega)]
      rfl
    · omega) (by
    rintro s (⟨h0, _⟩ | ⟨h0, _⟩ | ⟨_, rfl⟩)
    · omega
    · omega
    · refine ⟨_, ?_, rfl⟩
      unfold slices_Concat_Lexpand_token_expand_token_b4
      exact if_neg (by simp))
  rw [g3, Option.bind_some, g4]
  rfl
end Go.Sh
set_option linter.unusedVariables false
set_option linter.unusedSimpArgs false
namespace Go.Sh
open Go
def bareF : Bool → List GTok → List GExpand_token
  | _, [] => []
  | b, t :: r => if t.kind = 7 then bareF true r else GExpand_token.mk (GTok.mk t.kind t.text t.file_ t.from_ t.to (t.blank || b)) [] false false :: bareF false r
theorem bareF_len : ∀ (l : List GTok) (b : Bool), (bareF b l).length ≤ l.length
  | [], _ => Nat.le_refl _
  | t :: r, b => by
    unfold bareF; split
    · have := bareF_len r true; simp only [List.length_cons]; omega
    · have := bareF_len r false; simp only [List.length_cons]; omega
theorem bare_eq (l : List GTok) (h : l.length ≤ 1000000) : expand_bare l = some (bareF false l) := by
  unfold expand_bare
  obtain ⟨s, g1, g2⟩ := loopS_ix (f := expand_bare_b2 l) l.length (by omega) (fun k s => ∃ b out, s = (b, (k : Int), out) ∧ out.length ≤ k ∧ out ++ bareF b (l.drop k) = bareF false l) (fun z => z = bareF false l) (s0 := (false, (0 : Int), ([] : List GExpand_token))) ⟨false, [], rfl, Nat.le_refl _, rfl⟩ (by
    rintro k s hk ⟨b, out, rfl, ho, e⟩
    left
    unfold expand_bare_b2
    simp only
    rw [if_pos (decide_eq_true (by omega)), ix_at hk, Option.bind_some]
    rw [List.drop_eq_getElem_cons hk, bareF] at e
    by_cases h7 : l[k].kind = 7
    · rw [if_pos (decide_eq_true h7), chkT (by omega)]
      rw [if_pos h7] at e
      exact ⟨_, rfl, true, out, by push_cast; rfl, by omega, e⟩
    · rw [if_neg (by simpa using h7)]
      rw [if_neg h7] at e
      rw [orO_some, Option.bind_some, chkT (by omega), chkT (by omega)]
      refine ⟨_, rfl, false, _, by push_cast; rfl, ?_, ?_⟩
      · rw [List.length_append]; simp only [List.length_cons, List.length_nil]; omega
      · rw [List.append_assoc]; exact e) (by
    rintro s ⟨b, out, rfl, ho, e⟩
    refine ⟨out, ?_, by rw [List.drop_length] at e; simpa [bareF] using e⟩
    unfold expand_bare_b2
    exact if_neg (by simp))
  rw [g1, Option.bind_some, g2]
  rfl
end Go.Sh
set_option linter.unusedVariables false
set_option linter.unusedSimpArgs false
namespace Go.Sh
open Go
theorem xplain_eq (l : List GExpand_token) (h : l.length ≤ 1000000) : expand_plain l = some (l.map GExpand_token.tok) := by
  unfold expand_plain
  obtain ⟨s, g1, g2⟩ := loopS_ix (f := expand_plain_b2 l) l.length (by omega) (fun k s => s = ((k : Int), (l.take k).map GExpand_token.tok)) (fun z => z = l.map GExpand_token.tok) (s0 := ((0 : Int), ([] : List GTok))) rfl (by
    rintro k s hk rfl
    left
    unfold expand_plain_b2
    simp only
    rw [if_pos (decide_eq_true (by omega)), ix_at hk, Option.bind_some, chkT (by rw [List.length_map, List.length_take]; omega), chkT (by omega)]
    refine ⟨_, rfl, ?_⟩
    rw [List.take_add_one, List.getElem?_eq_getElem hk, List.map_append]
    rfl) (by
    rintro s rfl
    refine ⟨l.map GExpand_token.tok, ?_, rfl⟩
    rw [List.take_length]
    unfold expand_plain_b2
    exact if_neg (by simp))
  rw [g1, Option.bind_some, g2]
  rfl
end Go.Sh
set_option linter.unusedVariables false
set_option linter.unusedSimpArgs false
namespace Go.Sh
open Go
theorem hides_nil (y : GExpand_token) (n : List UInt8) (h : y.hide = []) : expand_token_hides y n = some false := by
  unfold expand_token_hides
  rw [h]
  show (slices_Contains_Lstring_string [] n).bind _ = _
  rw [show slices_Contains_Lstring_string [] n = some false by kernel_rfl]
  rfl
def ms1 : List (List UInt8 × GMacro) := [(gN, gM)]
theorem getM_ms1 (n : List UInt8) : getM n ms1 = if n = gN then some gM else none := by
  unfold getM ms1
  by_cases h : n = gN
  · rw [if_pos h]; simp [h]
  · rw [if_neg h]; have h2 : ¬ gN = n := fun e => h e.symm
    simp [h, getM]
theorem step_keep (y : GExpand_token) (r out : List GExpand_token) (s : Int) (hy : y.hide = []) (hk : y.tok.kind ≠ 1 ∨ y.tok.text ≠ gN) (ho : out.length < 4000) (hr : r.length ≤ 1000000) :
    expand_work_expand_b2 (y :: r, out, GExpand_work.mk ms1 s) = some (.next (r, out ++ [y], GExpand_work.mk ms1 s)) := by
  unfold expand_work_expand_b2
  simp only
  rw [if_pos (by simp), show ix (y :: r) 0 = some y from rfl, Option.bind_some, hides_nil y _ hy, Option.bind_some, orO_some, Option.bind_some, orO_some, Option.bind_some]
  have e : ((!decide (y.tok.kind = 1)) || false || !(getM y.tok.text ms1).isSome) = true := by
    rw [getM_ms1]
    rcases hk with h | h
    · simp [h]
    · simp [h]
  rw [e]
  have ot : ∀ x, orO true x = some true := fun _ => rfl
  rw [ot, Option.bind_some, if_pos rfl, chkT (by omega), if_neg (by simp; omega), chkT (by simp only [List.length_cons]; omega)]
  rfl
end Go.Sh
set_option linter.unusedVariables false
set_option linter.unusedSimpArgs false
namespace Go.Sh
open Go
theorem getM_gN : getM gN ms1 = some gM := by rw [getM_ms1, if_pos rfl]
theorem step_drop (y : GExpand_token) (r out : List GExpand_token) (s : Int) (hy : y.hide = []) (hk : y.tok.kind = 1) (ht : y.tok.text = gN) (h0 : 0 ≤ s) (h1 : s < 1000) (hr : r.length ≤ 100000) (hh : ∀ x ∈ r, x.hide = []) :
    ∃ r', expand_work_expand_b2 (y :: r, out, GExpand_work.mk ms1 s) = some (.next (r', out, GExpand_work.mk ms1 (s + 1))) ∧ r'.length = r.length ∧ ∀ x ∈ r', x.hide = [] := by
  have ao : ∀ x, andO false x = some false := fun _ => rfl
  unfold expand_work_expand_b2
  simp only
  rw [if_pos (by simp), show ix (y :: r) 0 = some y from rfl, Option.bind_some, hides_nil y _ hy, Option.bind_some, orO_some, Option.bind_some, orO_some, Option.bind_some]
  rw [ht, getM_gN, Option.getD_some, show gM.func = false from rfl, ao, Option.bind_some, orO_some, Option.bind_some]
  have e : (((!decide (y.tok.kind = 1)) || false || !(some gM).isSome) || false) = false := by rw [hk]; rfl
  rw [e, if_neg (by simp), replaced_gM ms1 s y r h0 h1, Option.bind_some]
  simp only
  rw [if_neg (by simp), chkT (by omega), chkT (by simp only [List.length_cons]; omega), if_neg (by simp)]
  have ed : (y :: r).drop ((0 : Int) + 1).toNat = r := rfl
  rw [ed, andO_some, Option.bind_some]
  have j3 : ∀ q : List GExpand_token, q.length ≤ 100000 → expand_work_expand_j3 out (([], 0, 0), GExpand_work.mk ms1 (s + 1)) (q, []) = some (.next (q, out, GExpand_work.mk ms1 (s + 1))) := by
    intro q hq
    unfold expand_work_expand_j3
    simp only
    rw [concatK_eq [] q (by simp only [List.length_nil]; omega), Option.bind_some]
    rfl
  by_cases hb : (y.tok.blank && decide ((0 : Int) < (r.length : Int))) = true
  · rw [if_pos hb, chkT (by omega)]
    have hp : 0 < r.length := by
      have := (Bool.and_eq_true _ _ ▸ hb).2
      have := of_decide_eq_true this
      omega
    match r, hp, hr, hh with
    | x :: r, _, hr, hh =>
      rw [show ix (x :: r) 0 = some x from rfl, Option.bind_some, j3 _ (by rw [List.length_set]; exact hr)]
      refine ⟨_, rfl, by rw [List.length_set], ?_⟩
      intro z hz
      have hz : z ∈ GExpand_token.mk (GTok.mk x.tok.kind x.tok.text x.tok.file_ x.tok.from_ x.tok.to true) x.hide x.mark x.op :: r := hz
      rcases List.mem_cons.1 hz with rfl | hz
      · exact hh x (List.mem_cons_self ..)
      · exact hh z (List.mem_cons_of_mem _ hz)
  · rw [if_neg hb, j3 r hr]
    exact ⟨r, rfl, rfl, hh⟩
theorem expand_ms1 (l : List GExpand_token) (hl : l.length ≤ 900) (hh : ∀ x ∈ l, x.hide = []) : ∃ out s, expand_work_expand (GExpand_work.mk ms1 0) l = some ((out, 0), GExpand_work.mk ms1 s) ∧ out.length ≤ l.length := by
  unfold expand_work_expand
  obtain ⟨o, g1, g2⟩ := loopS_rel (f := expand_work_expand_b2) (fun x : List GExpand_token × List GExpand_token × GExpand_work => ∃ s, x.2.2 = GExpand_work.mk ms1 s ∧ 0 ≤ s ∧ s + (x.1.length : Int) ≤ 900 ∧ x.2.1.length + x.1.length ≤ l.length ∧ ∀ z ∈ x.1, z.hide = []) (fun x => x.1.length) (fun r => ∃ out s, r = .inl (out, GExpand_work.mk ms1 s) ∧ out.length ≤ l.length) (s := (l, ([] : List GExpand_token), GExpand_work.mk ms1 0)) ⟨0, rfl, by omega, by simp only; omega, by simp, hh⟩ (by simp only; omega) (by
    rintro ⟨c, out, w⟩ ⟨s, e, h0, h1, h2, h3⟩
    simp only at e h1 h2 h3
    subst e
    match c, h1, h2, h3 with
    | [], _, h2, _ =>
      right
      refine ⟨.inl (out, GExpand_work.mk ms1 s), rfl, out, s, rfl, by simpa using h2⟩
    | y :: r, h1, h2, h3 =>
      simp only [List.length_cons] at h1 h2
      left
      by_cases hk : y.tok.kind = 1 ∧ y.tok.text = gN
      · obtain ⟨r', e1, e2, e3⟩ := step_drop y r out s (h3 y (List.mem_cons_self ..)) hk.1 hk.2 h0 (by omega) (by omega) (fun x hx => h3 x (List.mem_cons_of_mem _ hx))
        exact ⟨_, e1, ⟨s + 1, rfl, by omega, by simp only; omega, by simp only; omega, e3⟩, by simp only [List.length_cons]; omega⟩
      · refine ⟨_, step_keep y r out s (h3 y (List.mem_cons_self ..)) (by
          by_cases h : y.tok.kind = 1
          · exact .inr fun e => hk ⟨h, e⟩
          · exact .inl h) (by omega) (by omega), ⟨s, rfl, h0, by simp only; omega, by simp only [List.length_append, List.length_singleton]; omega, fun x hx => h3 x (List.mem_cons_of_mem _ hx)⟩, by simp only [List.length_cons]; omega⟩)
  rw [g1, Option.bind_some]
  obtain ⟨out, s, rfl, h⟩ := g2
  exact ⟨out, s, rfl, h⟩
theorem bareF_hide : ∀ (l : List GTok) (b : Bool), ∀ x ∈ bareF b l, x.hide = []
  | [], b, x, hx => by cases hx
  | t :: r, b, x, hx => by
    unfold bareF at hx
    split at hx
    · exact bareF_hide r true x hx
    · rcases List.mem_cons.1 hx with rfl | hx
      · rfl
      · exact bareF_hide r false x hx
theorem Expand_gM (l : List GTok) (hl : l.length ≤ 900) : ∃ out, expand_Expand [gM] l = some (out, 0) ∧ out.length ≤ l.length := by
  have e : expand_Expand [gM] l = expand_Expand_k2 l (GExpand_work.mk ms1 0) := by kernel_rfl
  rw [e]
  unfold expand_Expand_k2
  rw [bare_eq l (by omega), Option.bind_some]
  have hb := bareF_len l false
  obtain ⟨out, s, e1, e2⟩ := expand_ms1 (bareF false l) (by omega) (bareF_hide l false)
  rw [e1, Option.bind_some, xplain_eq out (by omega), Option.bind_some]
  exact ⟨_, rfl, by rw [List.length_map]; omega⟩
end Go.Sh
set_option linter.unusedVariables false
set_option linter.unusedSimpArgs false
namespace Go.Sh
open Go
def Goes {σ ρ : Type} (f : σ → Option (Step σ ρ)) (n : Nat) (s : σ) (r : ρ) : Prop := ∀ m, iterS f (n + m) s = some r
theorem Goes.done {σ ρ : Type} {f : σ → Option (Step σ ρ)} {s : σ} {r : ρ} (h : f s = some (.done r)) : Goes f 1 s r := fun m => by
  rw [Nat.add_comm]; simp only [iterS, h]
theorem Goes.next {σ ρ : Type} {f : σ → Option (Step σ ρ)} {s s' : σ} {r : ρ} {n : Nat} (h : f s = some (.next s')) (g : Goes f n s' r) : Goes f (n + 1) s r := fun m => by
  rw [show n + 1 + m = (n + m) + 1 by omega]; simp only [iterS, h]; exact g m
theorem Goes.loop {σ ρ : Type} {f : σ → Option (Step σ ρ)} {s : σ} {r : ρ} {n : Nat} (g : Goes f n s r) (h : n ≤ 1000000) : loopS f s = some r := by
  unfold loopS
  have := g (18446744073709551616 - n)
  rwa [show n + (18446744073709551616 - n) = 18446744073709551616 by omega] at this
theorem item_dir {R : UnitR} {f : GUnit_file} {L : List GItem} {i : Int} {run run' : GUnit_run} {e : Option GFault} {y : GItem} {ln : GLine} (hx : ix L i = some y) (hi : i < L.length) (h0 : 0 ≤ i) (h9 : i ≤ 1000000) (hb : y.branches = []) (hl : ix f.lines y.line_ = some ln) (hk : ln.kind ≠ 1) (hd : R.unit_file_directive f run y.line_ = some (e, run')) :
    unit_file_items_b2 R f L (i, run) = if e.isSome = true then some (.done (Sum.inr (e, run'))) else some (.next (i + 1, run')) := by
  unfold unit_file_items_b2
  simp only
  rw [if_pos (decide_eq_true hi), hx, Option.bind_some, hb, if_neg (by simp), hl, Option.bind_some, if_pos (by simpa using hk), hd, Option.bind_some]
  unfold unit_file_items_j3
  simp only
  rw [chkT (by omega)]
theorem item_br {R : UnitR} {f : GUnit_file} {L : List GItem} {i : Int} {run run' : GUnit_run} {e : Option GFault} {y : GItem} (hx : ix L i = some y) (hi : i < L.length) (h0 : 0 ≤ i) (h9 : i ≤ 1000000) (hb : 0 < y.branches.length) (hd : R.unit_file_branches f run y.branches = some (e, run')) :
    unit_file_items_b2 R f L (i, run) = if e.isSome = true then some (.done (Sum.inr (e, run'))) else some (.next (i + 1, run')) := by
  unfold unit_file_items_b2
  simp only
  rw [if_pos (decide_eq_true hi), hx, Option.bind_some, if_pos (decide_eq_true (by omega)), hd, Option.bind_some]
  unfold unit_file_items_j3
  simp only
  rw [chkT (by omega)]
theorem item_text {R : UnitR} {f : GUnit_file} {L : List GItem} {i : Nat} {run run' : GUnit_run} {e : Option GFault} (hi : i < L.length) (h9 : L.length ≤ 1000000)
    (hb : ∀ j, i ≤ j → j < L.length → ∃ y ln, ix L (j : Int) = some y ∧ y.branches = [] ∧ ix f.lines y.line_ = some ln ∧ ln.kind = 1)
    (hd : unit_file_text f run (L.drop i) = some (e, run')) :
    unit_file_items_b2 R f L ((i : Int), run) = if e.isSome = true then some (.done (Sum.inr (e, run'))) else some (.next ((L.length : Int), run')) := by
  obtain ⟨y, ln, hx, hy, hl, hk⟩ := hb i (Nat.le_refl _) hi
  unfold unit_file_items_b2
  simp only
  rw [if_pos (decide_eq_true (by omega)), hx, Option.bind_some, hy, if_neg (by simp), hl, Option.bind_some, if_neg (by rw [hk]; simp)]
  obtain ⟨q, g1, g2⟩ := loopS_rel (f := unit_file_items_b5 R f L) (fun z : Int => ∃ k : Nat, z = (k : Int) ∧ i ≤ k ∧ k < L.length) (fun z => L.length - z.toNat) (fun z : Int => z = (L.length : Int) - 1) (s := (i : Int)) ⟨i, rfl, Nat.le_refl _, hi⟩ (by omega) (by
    rintro z ⟨k, rfl, k1, k2⟩
    unfold unit_file_items_b5
    rw [chkT (by omega), chkT (by omega)]
    by_cases hk2 : k + 1 < L.length
    · left
      obtain ⟨y2, ln2, hx2, hy2, hl2, hk2'⟩ := hb (k + 1) (by omega) hk2
      have hx2 : ix L ((k : Int) + 1) = some y2 := by rw [← hx2]; push_cast; rfl
      rw [hx2, Option.bind_some, andO_some, Option.bind_some, chkT (by omega), Option.bind_some, hl2, Option.bind_some, andO_some, Option.bind_some]
      rw [if_pos (by rw [hy2, hk2']; simp; omega), chkT (by omega)]
      exact ⟨_, rfl, ⟨k + 1, by push_cast; rfl, by omega, hk2⟩, by omega⟩
    · right
      have af : ∀ x, andO false x = some false := fun _ => rfl
      rw [show decide ((k : Int) + 1 < (L.length : Int)) = false from decide_eq_false (by omega), af, Option.bind_some, af, Option.bind_some, if_neg (by simp)]
      exact ⟨_, rfl, by omega⟩)
  subst g2
  rw [g1, Option.bind_some]
  unfold unit_file_items_j4
  rw [chkT (by omega), chkT (by omega)]
  have ed : ((L.drop ((i : Int)).toNat).take (((L.length : Int) - 1 + 1).toNat - ((i : Int)).toNat)) = L.drop i := by
    rw [Int.toNat_natCast]
    exact List.take_of_length_le (by rw [List.length_drop]; omega)
  rw [ed, hd, Option.bind_some]
  unfold unit_file_items_j3
  simp only
  rw [chkT (by omega), show (L.length : Int) - 1 + 1 = (L.length : Int) by omega]
theorem items_end {R : UnitR} {f : GUnit_file} {L : List GItem} {run : GUnit_run} : unit_file_items_b2 R f L ((L.length : Int), run) = some (.done (.inl run)) := by
  unfold unit_file_items_b2
  exact if_neg (by simp)
theorem items_of {R : UnitR} {f : GUnit_file} {L : List GItem} {run : GUnit_run} {n : Nat} {o : Sum GUnit_run (Option GFault × GUnit_run)} (g : Goes (unit_file_items_b2 R f L) n ((0 : Int), run) o) (h : n ≤ 1000000) : unit_file_itemsF R f run L = some (match o with | .inl r => (none, r) | .inr x => x) := by
  unfold unit_file_itemsF
  rw [g.loop h, Option.bind_some]
  cases o <;> rfl
theorem dir_define {R : UnitR} {f : GUnit_file} {run run' : GUnit_run} {line : Int} {ln : GLine} (hl : ix f.lines line = some ln) (hk : ln.kind = 8) (hd : unit_file_define f run ln.toks = some (0, run')) : unit_file_directiveF R f run line = some (none, run') := by
  unfold unit_file_directiveF
  rw [hl, Option.bind_some, if_pos (decide_eq_true hk), hd]
  rfl
theorem dir_include {R : UnitR} {f : GUnit_file} {run : GUnit_run} {line : Int} {ln : GLine} {x : Option GFault × GUnit_run} (hl : ix f.lines line = some ln) (hk : ln.kind = 10) (hd : R.unit_file_include f run line = some x) : unit_file_directiveF R f run line = some x := by
  unfold unit_file_directiveF
  rw [hl, Option.bind_some, hk, if_neg (by decide), if_neg (by decide), if_pos (by decide), hd]
  rfl
theorem inc_step {R : UnitR} {f : GUnit_file} {run : GUnit_run} {line k : Int} {ln : GLine} {name : List UInt8} {sys : Bool} {x : Option GFault × GUnit_run} (hl : ix f.lines line = some ln) (ht : direct_Target ln = some (name, sys, 0)) (hf : unit_Find run.files name = some k) (hk : 0 ≤ k) (hd : 0 ≤ f.deep ∧ f.deep < 8) (hi : 0 ≤ run.includes ∧ run.includes < 60)
    (hR : R.unit_run_file (GUnit_run.mk run.files run.macros run.told (run.includes + 1)) k (f.deep + 1) = some x) : unit_file_includeF R f run line = some x := by
  unfold unit_file_includeF
  rw [hl, Option.bind_some, ht, Option.bind_some, if_neg (by simp), hf, Option.bind_some, if_neg (by simp; omega), orO_some, Option.bind_some, if_neg (by simp; omega), chkT (by omega), chkT (by omega), hR]
  rfl
theorem file_step {R : UnitR} {run : GUnit_run} {number deep : Int} {y : GFile} {toks : List GTok} {ls : List GLine} {items : List GItem} {x : Option GFault × GUnit_run} (hx : ix run.files number = some y) (ht : pptok_Tokens number y.text = some toks) (hl : direct_Lines toks = some ls) (hp : cond_Parse ls = some (items, 0, 0)) (hR : R.unit_file_items (GUnit_file.mk number ls deep) run items = some x) : unit_run_fileF R run number deep = some x := by
  unfold unit_run_fileF
  rw [hx, Option.bind_some, ht, Option.bind_some, hl, Option.bind_some, hp, Option.bind_some, if_neg (by simp), hR]
  rfl
def runOut (run : GUnit_run) : Option GFault → List GTok × GFault
  | none => (run.told, GFault.mk 0 0 0)
  | some fa => ([], fa)
theorem run_of {files : List GFile} {main : List UInt8} {k : Int} {e : Option GFault} {run : GUnit_run} (hf : unit_Find files main = some k) (hk : 0 ≤ k) (h : unit_run_file (GUnit_run.mk files [] [] 0) k 1 = some (e, run)) : unit_Run files main [] = some (runOut run e) := by
  unfold unit_Run
  rw [show unit_First [] = some ([], 0) by kernel_rfl, Option.bind_some, hf, Option.bind_some, if_neg (by simp), if_neg (by simp; omega)]
  rw [(Goes.done (f := unit_Run_b2 ([], 0)) (s := ((0 : Int), GUnit_run.mk files [] [] 0)) (r := GUnit_run.mk files [] [] 0) rfl).loop (by omega), Option.bind_some]
  unfold unit_Run_j1
  rw [h, Option.bind_some]
  cases e <;> rfl
theorem text_toks {f : GUnit_file} {its : List GItem} {W : List GLine} (hn : its.length = W.length) (hw : W.length ≤ 1000) (hx : ∀ (j : Nat) (h : j < W.length), ∃ y, ix its (j : Int) = some y ∧ ix f.lines y.line_ = some W[j]) (hs : (W.map fun x => x.toks.length + 1).sum ≤ 100000) :
    ∃ toks, loopS (unit_file_text_b2 f its) ((0 : Int), ([] : List GTok)) = some toks ∧ toks.length ≤ (W.map fun x => x.toks.length + 1).sum := by
  refine loopS_ix (f := unit_file_text_b2 f its) W.length (by omega) (fun k x => x.1 = (k : Int) ∧ x.2.length + ((W.drop k).map fun x => x.toks.length + 1).sum ≤ (W.map fun x => x.toks.length + 1).sum) _ (s0 := ((0 : Int), ([] : List GTok))) ⟨rfl, by simp⟩ ?_ ?_
  · rintro k ⟨t, l⟩ hk ⟨e1, e2⟩
    simp only at e1 e2
    subst e1
    left
    obtain ⟨y, y1, y2⟩ := hx k hk
    rw [List.drop_eq_getElem_cons hk, List.map_cons, List.sum_cons] at e2
    have j3 : ∀ q : List GTok, q.length ≤ l.length + 1 → unit_file_text_j3 f (k : Int) y q = some (.next ((k : Int) + 1, q ++ W[k].toks)) := by
      intro q hq
      unfold unit_file_text_j3
      rw [y2, Option.bind_some, chkT (by omega), chkT (by omega)]
    unfold unit_file_text_b2
    simp only
    rw [if_pos (decide_eq_true (by omega)), y1, Option.bind_some]
    by_cases h0 : (0 : Int) < (k : Int)
    · rw [if_pos (decide_eq_true h0), chkT (by omega), j3 _ (by simp)]
      exact ⟨_, rfl, by push_cast; rfl, by simp only [List.length_append, List.length_singleton]; omega⟩
    · rw [if_neg (by simpa using h0), j3 _ (by omega)]
      exact ⟨_, rfl, by push_cast; rfl, by simp only [List.length_append]; omega⟩
  · rintro ⟨t, l⟩ ⟨e1, e2⟩
    simp only at e1 e2
    subst e1
    refine ⟨l, ?_, by rw [List.drop_length] at e2; simpa using e2⟩
    unfold unit_file_text_b2
    simp only
    exact if_neg (by simp [hn])
theorem branch_hit {R : UnitR} {f : GUnit_file} {run : GUnit_run} {b : GBranch} {bs : List GBranch} {ln : GLine} {x : Option GFault × GUnit_run} (hl : ix f.lines b.line_ = some ln) (hh : unit_file_holds f run ln = some (true, 0)) (hR : R.unit_file_items f run (List.map upL b.items) = some x) : unit_file_branchesF R f run (b :: bs) = some x := by
  unfold unit_file_branchesF
  have s1 : unit_file_branches_b2 R f (b :: bs) ((0 : Int), run) = some (.done (.inr x)) := by
    unfold unit_file_branches_b2
    simp only
    rw [if_pos (by simp), show ix (b :: bs) 0 = some b from rfl, Option.bind_some, hl, Option.bind_some, hh, Option.bind_some, if_neg (by simp), if_pos rfl, hR]
    rfl
  rw [(Goes.done s1).loop (by omega)]
  rfl
theorem branch_none {R : UnitR} {f : GUnit_file} {run : GUnit_run} {b : GBranch} {ln : GLine} (hl : ix f.lines b.line_ = some ln) (hh : unit_file_holds f run ln = some (false, 0)) : unit_file_branchesF R f run [b] = some (none, run) := by
  unfold unit_file_branchesF
  have s1 : unit_file_branches_b2 R f [b] ((0 : Int), run) = some (.next ((1 : Int), run)) := by
    unfold unit_file_branches_b2
    simp only
    rw [if_pos (by simp), show ix [b] 0 = some b from rfl, Option.bind_some, hl, Option.bind_some, hh, Option.bind_some, if_neg (by simp), if_neg (by simp), chkT (by omega)]
    rfl
  have s2 : unit_file_branches_b2 R f [b] ((1 : Int), run) = some (.done (.inl run)) := rfl
  rw [((Goes.done s2).next s1).loop (by omega)]
  rfl
end Go.Sh
set_option linter.unusedVariables false
set_option linter.unusedSimpArgs false
namespace Go.Sh
open Go
theorem names_ms1 (files : List GFile) (told : List GTok) (inc : Int) : unit_run_names (GUnit_run.mk files ms1 told inc) = some ([gN], [gM]) := by kernel_rfl
theorem define_gN (f : GUnit_file) (files : List GFile) (told : List GTok) (inc x a b : Int) (bl : Bool) : unit_file_define f (GUnit_run.mk files [] told inc) [GTok.mk 1 gN x a b bl] = some (0, GUnit_run.mk files ms1 told inc) := by kernel_rfl
theorem holds_gN0 (f : GUnit_file) (files : List GFile) (told : List GTok) (inc p q x a b : Int) (bl : Bool) : unit_file_holds f (GUnit_run.mk files [] told inc) (GLine.mk 4 p q [GTok.mk 1 gN x a b bl]) = some (true, 0) := by kernel_rfl
theorem holds_gN1 (f : GUnit_file) (files : List GFile) (told : List GTok) (inc p q x a b : Int) (bl : Bool) : unit_file_holds f (GUnit_run.mk files ms1 told inc) (GLine.mk 4 p q [GTok.mk 1 gN x a b bl]) = some (false, 0) := by kernel_rfl
theorem text_gM (f : GUnit_file) (l : List GItem) (y : GItem) (toks : List GTok) (hy : ix l 0 = some y) (ht : toks.length ≤ 900) :
    ∃ told : List GTok, told.length ≤ 900 ∧ ∀ files inc, unit_file_text_j1 f (GUnit_run.mk files ms1 [] inc) l toks = some (none, GUnit_run.mk files ms1 told inc) := by
  obtain ⟨out, e, ho⟩ := Expand_gM toks ht
  have w0 : ∀ line, unit_file_wrong f line 0 = some none := fun line => rfl
  have j5 : ∀ files inc (q : List GTok), q.length ≤ 900 → unit_file_text_j5 f (GUnit_run.mk files ms1 [] inc) l 0 q = some (none, GUnit_run.mk files ms1 q inc) := by
    intro files inc q hq
    unfold unit_file_text_j5
    simp only [List.length_nil]
    rw [chkT (by omega), hy, Option.bind_some, w0]
    rfl
  have main : ∀ told, (∀ files inc, unit_file_text_j4 f (GUnit_run.mk files ms1 [] inc) l (out, 0) 0 = some (none, GUnit_run.mk files ms1 told inc)) → ∀ files inc, unit_file_text_j1 f (GUnit_run.mk files ms1 [] inc) l toks = some (none, GUnit_run.mk files ms1 told inc) := by
    intro told h files inc
    unfold unit_file_text_j1
    rw [names_ms1, Option.bind_some, e, Option.bind_some]
    simp only [List.length_nil]
    rw [chkT (by omega), andO_some, Option.bind_some, if_neg (by simp; omega), h files inc]
  by_cases h0 : (0 : Int) < (out.length : Int)
  · obtain ⟨x, r, rfl⟩ : ∃ x r, out = x :: r := by
      cases out with
      | nil => simp at h0
      | cons x r => exact ⟨x, r, rfl⟩
    refine ⟨GTok.mk x.kind x.text x.file_ x.from_ x.to true :: r, by simp only [List.length_cons] at ho ⊢; omega, main _ fun files inc => ?_⟩
    unfold unit_file_text_j4
    simp only
    rw [if_pos (decide_eq_true h0), show ix (x :: r) 0 = some x from rfl, Option.bind_some]
    exact j5 files inc (GTok.mk x.kind x.text x.file_ x.from_ x.to true :: r) (by simp only [List.length_cons] at ho ⊢; omega)
  · refine ⟨out, by omega, main _ fun files inc => ?_⟩
    unfold unit_file_text_j4
    simp only
    rw [if_neg (by simpa using h0)]
    exact j5 files inc out (by omega)
theorem cutN_sum : ∀ (l a : List Key), ((cutN a l).map fun p => p.length + 1).sum = a.length + l.length + 1
  | [], a => by simp [cutN]
  | t :: r, a => by
    rw [cutN]
    split
    · rw [List.map_cons, List.sum_cons, cutN_sum r []]; simp; omega
    · rw [cutN_sum r (a ++ [t])]; simp; omega
theorem cutN_pos : ∀ (l a : List Key), 0 < (cutN a l).length
  | [], a => by simp [cutN]
  | t :: r, a => by
    rw [cutN]
    split
    · simp
    · exact cutN_pos r (a ++ [t])
theorem leavesFrom_get : ∀ (n : Nat) (i : Int) (j : Nat), j < n → (leavesFrom i n)[j]? = some { line_ := i + j, end_ := i + j }
  | 0, i, j, h => by omega
  | n + 1, i, 0, h => by simp [leavesFrom]
  | n + 1, i, j + 1, h => by
    rw [leavesFrom, List.getElem?_cons_succ, leavesFrom_get n (i + 1) j (by omega), show i + 1 + (j : Int) = i + ((j + 1 : Nat) : Int) by omega]
theorem leaves_ix (n : Nat) (i : Int) (j : Nat) (h : j < n) : ix ((leavesFrom i n).map upL) (j : Int) = some { line_ := i + j, end_ := i + j, branches := [] } := by
  rw [ix_nat, List.getElem?_map, leavesFrom_get n i j h]
  rfl
theorem one_tok {l : List GTok} {k : Int} {t : List UInt8} {b : Bool} (h : l.map tk = [(k, t, b)]) : ∃ x p q, l = [GTok.mk k t x p q b] := by
  obtain ⟨y, rfl⟩ := List.map_eq_singleton_iff.1 h |>.imp fun y e => e.1
  have e : tk y = (k, t, b) := by simpa using h
  obtain ⟨k', t', x, p, q, b'⟩ := y
  simp only [tk, Prod.mk.injEq] at e
  obtain ⟨rfl, rfl, rfl⟩ := e
  exact ⟨x, p, q, rfl⟩
theorem guarded_are (s : List UInt8) (h : ∀ c ∈ s, c ≠ 35 ∧ c ≠ 92 ∧ c ≠ 47) (hl : s.length ≤ 150) : ∃ p q x a b bl p' q' x' a' b' bl' mid l9, linesOf (tokens 1 (guarded s)) = GLine.mk 4 p q [GTok.mk 1 gN x a b bl] :: GLine.mk 8 p' q' [GTok.mk 1 gN x' a' b' bl'] :: (mid ++ [l9]) ∧ l9.kind = 7 ∧ 0 < mid.length ∧ mid.length ≤ 151 ∧ (∀ l ∈ mid, l.kind = 1) ∧ (mid.map fun x => x.toks.length + 1).sum ≤ 151 := by
  have e := guarded_lines 1 s h
  obtain ⟨l0, r0, e0, k0, e⟩ := List.map_eq_cons_iff.1 e
  obtain ⟨l1, r1, e1, k1, e⟩ := List.map_eq_cons_iff.1 e
  obtain ⟨mid, r2, e2, k2, k3⟩ := List.map_eq_append_iff.1 e
  obtain ⟨l9, e9, k9⟩ := List.map_eq_singleton_iff.1 k3
  obtain ⟨K0, p, q, T0⟩ := l0
  obtain ⟨K1, p', q', T1⟩ := l1
  simp only [lk, Prod.mk.injEq] at k0 k1
  obtain ⟨rfl, k0⟩ := k0
  obtain ⟨rfl, k1⟩ := k1
  obtain ⟨x, a, b, rfl⟩ := one_tok k0
  obtain ⟨x', a', b', rfl⟩ := one_tok k1
  have hc : mid.length = (cutN [] ((tokens 0 s).map tk)).length := by have := congrArg List.length k2; simpa using this
  have hsum : (mid.map fun x => x.toks.length + 1).sum = ((cutN [] ((tokens 0 s).map tk)).map fun p => p.length + 1).sum := by
    have := congrArg (fun z : List (Int × List Key) => (z.map fun y => y.2.length + 1).sum) k2
    simpa [List.map_map, Function.comp_def, lk] using this
  have ht := tokens_len 0 s
  rw [cutN_sum] at hsum
  simp only [List.length_nil, List.length_map] at hsum
  have hlen : ∀ (m : List GLine), m.length ≤ (m.map fun x => x.toks.length + 1).sum := by
    intro m
    induction m with
    | nil => simp
    | cons y m ih => simp only [List.length_cons, List.map_cons, List.sum_cons]; omega
  have := hlen mid
  refine ⟨p, q, x, a, b, true, p', q', x', a', b', true, mid, l9, by rw [e0, e1, e2, e9], ?_, ?_, by omega, ?_, by omega⟩
  · simp only [lk, Prod.mk.injEq] at k9; exact k9.1
  · rw [hc]; exact cutN_pos _ _
  · intro l hl
    have : lk l ∈ mid.map lk := List.mem_map_of_mem hl
    rw [k2] at this
    obtain ⟨z, _, hz⟩ := List.mem_map.1 this
    simp only [lk, Prod.mk.injEq] at hz
    exact hz.1.symm
theorem guarded_len (s : List UInt8) (hl : s.length ≤ 150) : (guarded s).length ≤ 300 := by
  unfold guarded
  simp only [List.length_append, List.length_cons, gA, gB, gC, List.length_nil]
  omega
theorem guarded_run (s : List UInt8) (h : ∀ c ∈ s, c ≠ 35 ∧ c ≠ 92 ∧ c ≠ 47) (hl : s.length ≤ 150) (n : Nat) : ∃ told : List GTok, told.length ≤ 900 ∧ ∀ (files : List GFile) (inc : Int) (nm : List UInt8), ix files 1 = some (GFile.mk nm (guarded s)) →
    (unitN (n + 5)).unit_run_file (GUnit_run.mk files [] [] inc) 1 2 = some (none, GUnit_run.mk files ms1 told inc) ∧
    (∀ told2, (unitN (n + 5)).unit_run_file (GUnit_run.mk files ms1 told2 inc) 1 2 = some (none, GUnit_run.mk files ms1 told2 inc)) := by
  obtain ⟨p, q, x, a, b, bl, p', q', x', a', b', bl', mid, l9, e, k9, m0, m1, mk, ms⟩ := guarded_are s h hl
  have hgl := guarded_len s hl
  have et := tokens_eq 1 (guarded s) (by omega)
  have hlt := tokens_len 1 (guarded s)
  have el := lines_eq (tokens 1 (guarded s)) (by omega)
  rw [e] at el
  have hp := parse_block (GLine.mk 4 p q [GTok.mk 1 gN x a b bl]) l9 (GLine.mk 8 p' q' [GTok.mk 1 gN x' a' b' bl'] :: mid) (.inr (.inr rfl)) (by
    intro l hl
    rcases List.mem_cons.1 hl with rfl | hl
    · right; show (7 : Int) < 8; omega
    · left; rw [mk l hl]; omega) k9 (by simp only [List.length_cons]; omega)
  rw [List.cons_append] at hp
  generalize hL : GLine.mk 4 p q [GTok.mk 1 gN x a b bl] :: GLine.mk 8 p' q' [GTok.mk 1 gN x' a' b' bl'] :: (mid ++ [l9]) = Ls at *
  have x0 : ix Ls 0 = some (GLine.mk 4 p q [GTok.mk 1 gN x a b bl]) := by rw [← hL]; rfl
  have x1 : ix Ls 1 = some (GLine.mk 8 p' q' [GTok.mk 1 gN x' a' b' bl']) := by rw [← hL]; rfl
  have xm : ∀ (j : Nat) (hj : j < mid.length), ix Ls (2 + (j : Int)) = some mid[j] := by
    intro j hj
    rw [show 2 + (j : Int) = ((j + 2 : Nat) : Int) by omega, ix_nat, ← hL, List.getElem?_cons_succ, List.getElem?_cons_succ, List.getElem?_append_left hj, List.getElem?_eq_getElem hj]
  have hb : ∃ b : GBranch, b = { line_ := 0, items := leavesFrom 1 (mid.length + 1) } := ⟨_, rfl⟩
  obtain ⟨br, hbr⟩ := hb
  rw [List.length_cons, ← hbr] at hp
  -- the text
  have tl : ∀ f : GUnit_file, f.lines = Ls → ∃ toks, loopS (unit_file_text_b2 f (((leavesFrom 1 (mid.length + 1)).map upL).drop 1)) ((0 : Int), ([] : List GTok)) = some toks ∧ toks.length ≤ 151 := by
    intro f hf
    obtain ⟨toks, t1, t2⟩ := text_toks (f := f) (its := ((leavesFrom 1 (mid.length + 1)).map upL).drop 1) (W := mid) (by rw [List.length_drop, List.length_map, leavesFrom_len]; omega) (by omega) (fun j hj => by
      refine ⟨{ line_ := 2 + (j : Int), end_ := 2 + (j : Int), branches := [] }, ?_, ?_⟩
      · rw [ix_nat, List.getElem?_drop, ← ix_nat, leaves_ix _ _ _ (by omega)]
        congr 2 <;> · push_cast; omega
      · rw [hf]; exact xm j hj) (by omega)
    exact ⟨toks, t1, by omega⟩
  obtain ⟨f, hf⟩ : ∃ f, f = GUnit_file.mk 1 Ls 2 := ⟨_, rfl⟩
  have hfl : f.lines = Ls := by rw [hf]
  obtain ⟨toks, t1, t2⟩ := tl f hfl
  have hy : ∃ y, ix (((leavesFrom 1 (mid.length + 1)).map upL).drop 1) 0 = some y := by
    refine ⟨{ line_ := 2, end_ := 2, branches := [] }, ?_⟩
    rw [show (0 : Int) = ((0 : Nat) : Int) from rfl, ix_nat, List.getElem?_drop, ← ix_nat, leaves_ix _ _ _ (by omega)]
    rfl
  obtain ⟨y, hy⟩ := hy
  obtain ⟨told, hlen, ht⟩ := text_gM f _ y toks hy (by omega)
  refine ⟨told, hlen, fun files inc nm hx => ⟨?_, fun told2 => ?_⟩⟩
  · refine file_step (R := unitN (n + 4)) hx et el hp ?_
    show unit_file_itemsF (unitN (n + 3)) _ _ _ = _
    rw [← hf]
    have hbrn : unit_file_branchesF (unitN (n + 2)) f (GUnit_run.mk files [] [] inc) [br] = some (none, GUnit_run.mk files ms1 told inc) := by
      refine branch_hit (ln := GLine.mk 4 p q [GTok.mk 1 gN x a b bl]) (by rw [hfl, hbr]; exact x0) (holds_gN0 f files [] inc p q x a b bl) ?_
      show unit_file_itemsF (unitN (n + 1)) _ _ _ = _
      rw [hbr]
      have ll : ((leavesFrom 1 (mid.length + 1)).map upL).length = mid.length + 1 := by rw [List.length_map, leavesFrom_len]
      have s1 := item_dir (R := unitN (n + 1)) (f := f) (L := (leavesFrom 1 (mid.length + 1)).map upL) (i := 0) (run := GUnit_run.mk files [] [] inc) (run' := GUnit_run.mk files ms1 [] inc) (e := none) (ln := GLine.mk 8 p' q' [GTok.mk 1 gN x' a' b' bl']) (leaves_ix (mid.length + 1) 1 0 (by omega)) (by rw [ll]; omega) (by omega) (by omega) rfl (by rw [hfl]; exact x1) (by simp) (dir_define (R := unitN n) (by rw [hfl]; exact x1) rfl (define_gN f files [] inc x' a' b' bl'))
      have s2 := item_text (R := unitN (n + 1)) (f := f) (L := (leavesFrom 1 (mid.length + 1)).map upL) (i := 1) (run := GUnit_run.mk files ms1 [] inc) (run' := GUnit_run.mk files ms1 told inc) (e := none) (by rw [ll]; omega) (by rw [ll]; omega) (by
        intro j j1 j2
        rw [ll] at j2
        obtain ⟨k, rfl⟩ : ∃ k, j = k + 1 := ⟨j - 1, by omega⟩
        refine ⟨_, mid[k]'(by omega), leaves_ix (mid.length + 1) 1 (k + 1) (by omega), rfl, ?_, mk _ (List.getElem_mem _)⟩
        rw [hfl, ← xm k (by omega)]
        congr 1
        push_cast
        omega) (by
        unfold unit_file_text
        rw [t1, Option.bind_some, ht])
      have g : Goes (unit_file_items_b2 (unitN (n + 1)) f ((leavesFrom 1 (mid.length + 1)).map upL)) 3 ((0 : Int), GUnit_run.mk files [] [] inc) (.inl (GUnit_run.mk files ms1 told inc)) := ((Goes.done items_end).next s2).next s1
      exact items_of g (by omega)
    have s1 := item_br (R := unitN (n + 3)) (f := f) (L := [{ line_ := 0, end_ := 1 + (((mid.length + 1 : Nat)) : Int), branches := [br] }]) (i := 0) (run := GUnit_run.mk files [] [] inc) (run' := GUnit_run.mk files ms1 told inc) (e := none) rfl (by simp) (by omega) (by omega) (by simp) hbrn
    exact items_of ((Goes.done items_end).next s1) (by omega)
  · refine file_step (R := unitN (n + 4)) hx et el hp ?_
    show unit_file_itemsF (unitN (n + 3)) _ _ _ = _
    rw [← hf]
    have hbrn : unit_file_branchesF (unitN (n + 2)) f (GUnit_run.mk files ms1 told2 inc) [br] = some (none, GUnit_run.mk files ms1 told2 inc) :=
      branch_none (ln := GLine.mk 4 p q [GTok.mk 1 gN x a b bl]) (by rw [hfl, hbr]; exact x0) (holds_gN1 f files told2 inc p q x a b bl)
    have s1 := item_br (R := unitN (n + 3)) (f := f) (L := [{ line_ := 0, end_ := 1 + (((mid.length + 1 : Nat)) : Int), branches := [br] }]) (i := 0) (run := GUnit_run.mk files ms1 told2 inc) (run' := GUnit_run.mk files ms1 told2 inc) (e := none) rfl (by simp) (by omega) (by omega) (by simp) hbrn
    exact items_of ((Goes.done items_end).next s1) (by omega)
end Go.Sh
set_option linter.unusedVariables false
set_option linter.unusedSimpArgs false
namespace Go.Sh
open Go
theorem equal_refl (l : List GTok) (h : l.length ≤ 100000) : emendref22_Equal l l = some true := by
  unfold emendref22_Equal
  rw [if_neg (by simp)]
  obtain ⟨o, g1, g2⟩ := loopS_ix (f := emendref22_Equal_b2 l l) l.length (by omega) (fun k x => x = (k : Int)) (fun r => r = .inl ()) (s0 := (0 : Int)) rfl (by
    rintro k x hk rfl
    left
    unfold emendref22_Equal_b2
    rw [if_pos (decide_eq_true (by omega)), ix_at hk, Option.bind_some, Option.bind_some, Option.bind_some, Option.bind_some, orO_some, Option.bind_some, if_neg (by simp), chkT (by omega)]
    exact ⟨_, rfl, by push_cast; rfl⟩) (by
    rintro x rfl
    refine ⟨_, ?_, rfl⟩
    unfold emendref22_Equal_b2
    exact if_neg (by simp))
  subst g2
  rw [g1]
  rfl
def toksA : List GTok := (pptok_Tokens 0 emendtop_TopGuard_l1).getD []
def toksB : List GTok := (pptok_Tokens 0 emendtop_TopGuard_l2).getD []
def lsA : List GLine := (direct_Lines toksA).getD []
def lsB : List GLine := (direct_Lines toksB).getD []
theorem toksA_eq : pptok_Tokens 0 emendtop_TopGuard_l1 = some toksA := by kernel_rfl
theorem toksB_eq : pptok_Tokens 0 emendtop_TopGuard_l2 = some toksB := by kernel_rfl
theorem lsA_eq : direct_Lines toksA = some lsA := by kernel_rfl
theorem lsB_eq : direct_Lines toksB = some lsB := by kernel_rfl
theorem parseA : cond_Parse lsA = some ([{ line_ := 0, end_ := 0, branches := [] }, { line_ := 1, end_ := 1, branches := [] }], 0, 0) := by kernel_rfl
theorem parseB : cond_Parse lsB = some ([{ line_ := 0, end_ := 0, branches := [] }], 0, 0) := by kernel_rfl
def ln0 : GLine := GLine.mk 0 0 0 []
def lA0 : GLine := (ix lsA 0).getD ln0
def lA1 : GLine := (ix lsA 1).getD ln0
def lB0 : GLine := (ix lsB 0).getD ln0
theorem lA0_ix : ix lsA 0 = some lA0 := by kernel_rfl
theorem lA1_ix : ix lsA 1 = some lA1 := by kernel_rfl
theorem lB0_ix : ix lsB 0 = some lB0 := by kernel_rfl
theorem lA0_k : lA0.kind = 10 := by kernel_rfl
theorem lA1_k : lA1.kind = 10 := by kernel_rfl
theorem lB0_k : lB0.kind = 10 := by kernel_rfl
theorem lA0_t : direct_Target lA0 = some ([98, 46, 104], false, 0) := by kernel_rfl
theorem lA1_t : direct_Target lA1 = some ([98, 46, 104], true, 0) := by kernel_rfl
theorem lB0_t : direct_Target lB0 = some ([98, 46, 104], false, 0) := by kernel_rfl
theorem find_a (a b : List UInt8) : unit_Find [GFile.mk [97, 46, 99] a, GFile.mk [98, 46, 104] b] [97, 46, 99] = some 0 := by kernel_rfl
theorem find_b (a b : List UInt8) : unit_Find [GFile.mk [97, 46, 99] a, GFile.mk [98, 46, 104] b] [98, 46, 104] = some 1 := by kernel_rfl
theorem guard_runs (s : List UInt8) (h : ∀ c ∈ s, c ≠ 35 ∧ c ≠ 92 ∧ c ≠ 47) (hl : s.length ≤ 150) : ∃ told : List GTok, told.length ≤ 900 ∧
    unit_Run [GFile.mk [97, 46, 99] emendtop_TopGuard_l1, GFile.mk [98, 46, 104] (guarded s)] [97, 46, 99] [] = some (told, GFault.mk 0 0 0) ∧
    unit_Run [GFile.mk [97, 46, 99] emendtop_TopGuard_l2, GFile.mk [98, 46, 104] (guarded s)] [97, 46, 99] [] = some (told, GFault.mk 0 0 0) := by
  obtain ⟨told, hlen, ht⟩ := guarded_run s h hl 31
  refine ⟨told, hlen, ?_, ?_⟩
  · generalize hf : [GFile.mk [97, 46, 99] emendtop_TopGuard_l1, GFile.mk [98, 46, 104] (guarded s)] = files
    have hfa : unit_Find files [97, 46, 99] = some 0 := by rw [← hf]; exact find_a _ _
    have hfb : unit_Find files [98, 46, 104] = some 1 := by rw [← hf]; exact find_b _ _
    have hx0 : ix files 0 = some (GFile.mk [97, 46, 99] emendtop_TopGuard_l1) := by rw [← hf]; rfl
    have hx1 : ix files 1 = some (GFile.mk [98, 46, 104] (guarded s)) := by rw [← hf]; rfl
    have r1 := (ht files 1 _ hx1).1
    have r2 := (ht files 2 _ hx1).2 told
    have d0 : (unitN 38).unit_file_directive (GUnit_file.mk 0 lsA 1) (GUnit_run.mk files [] [] 0) 0 = some (none, GUnit_run.mk files ms1 told 1) := by
      refine dir_include (R := unitN 37) (f := GUnit_file.mk 0 lsA 1) (line := 0) (ln := lA0) lA0_ix lA0_k ?_
      exact inc_step (R := unitN 36) (f := GUnit_file.mk 0 lsA 1) (line := 0) (ln := lA0) lA0_ix lA0_t hfb (by omega) ⟨by simp, by simp⟩ ⟨by simp, by simp⟩ r1
    have d1 : (unitN 38).unit_file_directive (GUnit_file.mk 0 lsA 1) (GUnit_run.mk files ms1 told 1) 1 = some (none, GUnit_run.mk files ms1 told 2) := by
      refine dir_include (R := unitN 37) (f := GUnit_file.mk 0 lsA 1) (line := 1) (ln := lA1) lA1_ix lA1_k ?_
      exact inc_step (R := unitN 36) (f := GUnit_file.mk 0 lsA 1) (line := 1) (ln := lA1) lA1_ix lA1_t hfb (by omega) ⟨by simp, by simp⟩ ⟨by simp, by simp⟩ r2
    have s1 := item_dir (R := unitN 38) (f := GUnit_file.mk 0 lsA 1) (L := [{ line_ := 0, end_ := 0, branches := [] }, { line_ := 1, end_ := 1, branches := [] }]) (i := 0) (ln := lA0) rfl (by simp) (by omega) (by omega) rfl lA0_ix (by rw [lA0_k]; omega) d0
    have s2 := item_dir (R := unitN 38) (f := GUnit_file.mk 0 lsA 1) (L := [{ line_ := 0, end_ := 0, branches := [] }, { line_ := 1, end_ := 1, branches := [] }]) (i := 1) (ln := lA1) rfl (by simp) (by omega) (by omega) rfl lA1_ix (by rw [lA1_k]; omega) d1
    refine run_of (run := GUnit_run.mk files ms1 told 2) (e := none) hfa (by omega) ?_
    refine file_step (R := unitN 39) hx0 toksA_eq lsA_eq parseA ?_
    exact items_of (((Goes.done items_end).next s2).next s1) (by omega)
  · generalize hf : [GFile.mk [97, 46, 99] emendtop_TopGuard_l2, GFile.mk [98, 46, 104] (guarded s)] = files
    have hfa : unit_Find files [97, 46, 99] = some 0 := by rw [← hf]; exact find_a _ _
    have hfb : unit_Find files [98, 46, 104] = some 1 := by rw [← hf]; exact find_b _ _
    have hx0 : ix files 0 = some (GFile.mk [97, 46, 99] emendtop_TopGuard_l2) := by rw [← hf]; rfl
    have hx1 : ix files 1 = some (GFile.mk [98, 46, 104] (guarded s)) := by rw [← hf]; rfl
    have r1 := (ht files 1 _ hx1).1
    have d0 : (unitN 38).unit_file_directive (GUnit_file.mk 0 lsB 1) (GUnit_run.mk files [] [] 0) 0 = some (none, GUnit_run.mk files ms1 told 1) := by
      refine dir_include (R := unitN 37) (f := GUnit_file.mk 0 lsB 1) (line := 0) (ln := lB0) lB0_ix lB0_k ?_
      exact inc_step (R := unitN 36) (f := GUnit_file.mk 0 lsB 1) (line := 0) (ln := lB0) lB0_ix lB0_t hfb (by omega) ⟨by simp, by simp⟩ ⟨by simp, by simp⟩ r1
    have s1 := item_dir (R := unitN 38) (f := GUnit_file.mk 0 lsB 1) (L := [{ line_ := 0, end_ := 0, branches := [] }]) (i := 0) (ln := lB0) rfl (by simp) (by omega) (by omega) rfl lB0_ix (by rw [lB0_k]; omega) d0
    refine run_of (run := GUnit_run.mk files ms1 told 1) (e := none) hfa (by omega) ?_
    refine file_step (R := unitN 39) hx0 toksB_eq lsB_eq parseB ?_
    exact items_of ((Goes.done items_end).next s1) (by omega)
theorem guarded_text (s : List UInt8) : (emendtop_TopGuard_l0 ++ s) ++ [10, 35, 101, 110, 100, 105, 102, 10] = guarded s := by
  simp [guarded, gA, gB, gC, emendtop_TopGuard_l0]
theorem topGuard_law (s : List UInt8) : emendtop_TopGuard s = some true := by
  unfold emendtop_TopGuard
  rw [alive_is, Option.bind_some, plain_eq s 150 _ (by omega) (by decide), Option.bind_some]
  by_cases h : (s.length : Int) ≤ 150 ∧ ∀ c ∈ s, c ∉ ([35, 92, 47] : List UInt8)
  · rw [decide_eq_true h, if_neg (by decide)]
    have hl : s.length ≤ 150 := by omega
    have hgl := guarded_len s hl
    obtain ⟨told, hlen, e1, e2⟩ := guard_runs s (fun c hc => by
      have := h.2 c hc
      simp only [List.mem_cons, List.not_mem_nil, or_false, not_or] at this
      exact this) hl
    rw [chkT (by simp only [List.length_append, emendtop_TopGuard_l0, List.length_cons, List.length_nil]; omega), chkT (by simp only [List.length_append, emendtop_TopGuard_l0, List.length_cons, List.length_nil]; omega)]
    rw [guarded_text, e1, Option.bind_some, e2, Option.bind_some]
    simp only
    rw [andO_some, Option.bind_some, equal_refl told (by omega), Option.bind_some, andO_some]
    rfl
  · rw [decide_eq_false h, if_pos (by decide)]
end Go.Sh
