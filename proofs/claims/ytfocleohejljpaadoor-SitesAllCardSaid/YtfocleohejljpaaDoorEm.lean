/-
  Where names are written, in plain words: the words of files, the part that each has; by the program. No program in sight.
-/
import Derived.Test.YtfocleohejljpaaDoorCc
import Derived.Test.YtfocleohejljpaaDoorA10
set_option linter.unusedVariables false
set_option linter.unusedSimpArgs false
namespace Go.Sh
open Go
theorem awake19 : emendlaw19_awake = some true := by kernel_rfl
theorem lines_ok (l : List GTok) : ∀ x ∈ linesOf l, ∃ p : Int × Int, x = pieceOf l p ∧ 0 ≤ p.1 ∧ p.1 ≤ p.2 ∧ p.2 ≤ (l.length : Int) := by
  intro x hx
  unfold linesOf at hx
  obtain ⟨p, hp, rfl⟩ := List.mem_map.1 hx
  obtain ⟨h1, h2, h3⟩ := (pieces_bound l.length l 0 0 (by omega) (Nat.le_refl _)).2 p hp
  exact ⟨p, rfl, h1, h2, h3⟩
def segOf (l : List GTok) (p : Int × Int) : List GTok := (l.drop p.1.toNat).take (p.2.toNat - p.1.toNat)
theorem seg_len (l : List GTok) (p : Int × Int) (h1 : 0 ≤ p.1) (h2 : p.1 ≤ p.2) (h3 : p.2 ≤ (l.length : Int)) : ((segOf l p).length : Int) = p.2 - p.1 := by
  unfold segOf; rw [List.length_take, List.length_drop]; omega
theorem piece_line (l : List GTok) (p : Int × Int) : pieceOf l p = lineOf (segOf l p) p.1 := rfl
theorem piece_first (l : List GTok) (p : Int × Int) (h1 : 0 ≤ p.1) (h2 : p.1 ≤ p.2) (h3 : p.2 ≤ (l.length : Int)) : (pieceOf l p).first = p.1 ∧ (pieceOf l p).n = p.2 - p.1 := by
  obtain ⟨e1, e2, _⟩ := lineOf_n (segOf l p) p.1
  rw [piece_line]
  exact ⟨e2, by rw [e1, seg_len l p h1 h2 h3]⟩
theorem allOf_piece (l : List GTok) (p : Int × Int) (h1 : 0 ≤ p.1) (h2 : p.1 ≤ p.2) (h3 : p.2 ≤ (l.length : Int)) : allOf l (pieceOf l p) = segOf l p := by
  obtain ⟨e1, e2⟩ := piece_first l p h1 h2 h3
  unfold allOf segOf
  rw [e1, e2, show p.1 + (p.2 - p.1) = p.2 by omega]
def wordsF : Nat → List GFile → List GSites_word
  | _, [] => []
  | i, f :: r => linesW (tokens (i : Int) f.text) 0 (linesOf (tokens (i : Int) f.text)) ++ wordsF (i + 1) r
theorem wordsO_eq : ∀ (fs : List GFile) (i : Nat), (∀ f ∈ fs, f.text.length ≤ 2000000) → wordsO i fs = some (wordsF i fs)
  | [], _, _ => rfl
  | f :: r, i, h => by
    have hf := h f (by simp)
    have h1 := tokens_len (i : Int) f.text
    have h2 := linesOf_len (tokens (i : Int) f.text)
    rw [wordsO, tokens_eq _ _ hf, Option.bind_some, lines_eq _ (by omega), Option.bind_some, chkT ⟨by omega, by omega, fun x hx => by
      obtain ⟨p, rfl, a1, a2, a3⟩ := lines_ok _ x hx
      obtain ⟨e1, e2⟩ := piece_first _ p a1 a2 a3
      rw [e1, e2]; omega⟩, wordsO_eq r (i + 1) (fun g hg => h g (by simp [hg]))]
    rfl
theorem words_eq (fs : List GFile) (hl : fs.length ≤ 2000000) (h : ∀ f ∈ fs, f.text.length ≤ 2000000) : words_ fs = some (wordsF 0 fs) := by
  unfold words_; rw [chkT (by omega), wordsO_eq fs 0 h]
/-! ### what a word is -/
def sgn (s : List UInt8) (t : GTok) : Bool := t.kind == 5 && @BEq.beq _ instBEqOfDecidableEq t.text s
def bodyAt (l : List GTok) (i : Nat) : Bool := match l with
  | _ :: t :: _ => !(sgn [40] t) || t.blank || ((l.drop 1).take (i - 1)).any (sgn [41])
  | _ => true
def partOf (x : GLine) (i : Int) : Int :=
  if x.kind = 1 then 1 else if i < 0 then 7 else if x.kind = 8 then (if i = 0 then 2 else if bodyAt x.toks i.toNat = true then 5 else 4) else if x.kind = 9 then 3 else if x.kind = 2 ∨ x.kind = 3 ∨ x.kind = 4 ∨ x.kind = 5 then 6 else 7
def ahead (x : GLine) : Int := x.n - (x.toks.length : Int)
def isAt (l : List GTok) (i : Int) (s : List UInt8) : Bool := if 0 ≤ i then (l[i.toNat]?.map (sgn s)).getD false else false
def glueOf (x : GLine) (i : Int) : Bool := isAt x.toks (i - 1) [35] || isAt x.toks (i - 1) [35, 35] || isAt x.toks (i + 1) [35, 35]
def WordOk (w : GSites_word) : Prop := ∃ (a : Int) (m : Nat), w.line_ = lineOf w.all a ∧ w.at_ = (m : Int) ∧ w.all[m]? = some w.tok ∧ w.all.length ≤ 2000000
theorem line_two (l : List GTok) (a : Int) (h : (lineOf l a).kind = 8) : (lineOf l a).toks = l.drop 2 ∧ (lineOf l a).n = (l.length : Int) ∧ 2 ≤ l.length := by
  unfold lineOf at h ⊢
  match l with
  | [] => simp at h
  | [t] =>
    simp only at h ⊢
    split at h <;> simp at h
  | t :: u :: r =>
    simp only at h ⊢
    split at h
    · rename_i h1
      rw [if_pos h1]
      split at h
      · rename_i h2
        rw [if_pos h2]
        refine ⟨rfl, rfl, by simp⟩
      · simp at h
    · simp at h
theorem line_n (l : List GTok) (a : Int) : (lineOf l a).n = (l.length : Int) ∧ (lineOf l a).toks.length ≤ l.length := ⟨(lineOf_n l a).1, lineOf_toks l a⟩
theorem ssign_eq (t : GTok) (s : List UInt8) : sites_sign t s = some (sgn s t) := by
  unfold sites_sign sgn; simp only [chkB, andB, orB, condAnd, condOr, iteB, neqB, nltB, nleB, m8_9, m8_10, m8_11, m8_12, m8_13, m8_32, m8_34, m8_35, m8_39, m8_40, m8_41, m8_42, m8_43, m8_44, m8_45, m8_46, m8_47, m8_48, m8_60, m8_62, m8_64, m8_65, m8_67, m8_69, m8_80, m8_90, m8_92, m8_95, m8_97, m8_101, m8_112, m8_122, m8, orO_some, andO_some, Option.bind_some, getD_drop]
theorem inBody_eq (w : GSites_word) (m : Nat) (hm : w.at_ = (m : Int)) (h3 : 3 ≤ m) (hl : m < w.all.length) (hb : w.all.length ≤ 2000000) : sites_word_inBody w = some (bodyAt (w.all.drop 2) (m - 2)) := by
  unfold sites_word_inBody
  simp only [ssign_eq, chkB, andB, orB, condAnd, condOr, iteB, neqB, nltB, nleB, m8_9, m8_10, m8_11, m8_12, m8_13, m8_32, m8_34, m8_35, m8_39, m8_40, m8_41, m8_42, m8_43, m8_44, m8_45, m8_46, m8_47, m8_48, m8_60, m8_62, m8_64, m8_65, m8_67, m8_69, m8_80, m8_90, m8_92, m8_95, m8_97, m8_101, m8_112, m8_122, m8, orO_some, andO_some, Option.bind_some, getD_drop]
  have g3 : 3 < w.all.length := by omega
  have x3 : ix w.all 3 = some w.all[3] := ix_of (List.getElem?_eq_getElem g3) rfl
  rw [ltF (by omega), x3]
  simp only [Option.bind_some, cond_false, Bool.false_or, chkB, andB, orB, condAnd, condOr, iteB, neqB, nltB, nleB, m8_9, m8_10, m8_11, m8_12, m8_13, m8_32, m8_34, m8_35, m8_39, m8_40, m8_41, m8_42, m8_43, m8_44, m8_45, m8_46, m8_47, m8_48, m8_60, m8_62, m8_64, m8_65, m8_67, m8_69, m8_80, m8_90, m8_92, m8_95, m8_97, m8_101, m8_112, m8_122, m8, orO_some, andO_some, Option.bind_some, getD_drop]
  have hd : w.all.drop 2 = w.all[2] :: w.all[3] :: w.all.drop 4 := by
    rw [List.drop_eq_getElem_cons (by omega), List.drop_eq_getElem_cons (by omega)]
  have hbody : bodyAt (w.all.drop 2) (m - 2) = (!(sgn [40] w.all[3]) || w.all[3].blank || ((w.all.drop 3).take (m - 3)).any (sgn [41])) := by
    rw [hd]
    simp only [bodyAt, List.drop_succ_cons, List.drop_zero]
    rw [← List.drop_eq_getElem_cons (by omega), show m - 2 - 1 = m - 3 by omega]
  rw [hbody]
  obtain ⟨al, hal⟩ : ∃ al, al = (w.all.drop 3).take (m - 3) := ⟨_, rfl⟩
  have hlen : al.length = m - 3 := by rw [hal, List.length_take, List.length_drop]; omega
  have hal2 : (w.all.drop (3 : Int).toNat).take ((w.at_).toNat - (3 : Int).toNat) = al := by rw [hm, hal]; rfl
  have hloop := loopS_find (f := sites_word_inBody_b2 w) al (sgn [41]) true (by omega) (fun k hk => by
    unfold sites_word_inBody_b2
    simp only [hal2, ssign_eq, chkB, andB, orB, condAnd, condOr, iteB, neqB, nltB, nleB, m8_9, m8_10, m8_11, m8_12, m8_13, m8_32, m8_34, m8_35, m8_39, m8_40, m8_41, m8_42, m8_43, m8_44, m8_45, m8_46, m8_47, m8_48, m8_60, m8_62, m8_64, m8_65, m8_67, m8_69, m8_80, m8_90, m8_92, m8_95, m8_97, m8_101, m8_112, m8_122, m8, orO_some, andO_some, Option.bind_some, getD_drop]
    rw [iteT (ltT (by omega)), ix_at hk, Option.bind_some]
    by_cases hs : sgn [41] al[k] = true
    · rw [iteT hs, iteT hs]
    · rw [iteF (Bool.eq_false_iff.2 hs), iteF (Bool.eq_false_iff.2 hs), pk (by omega)]; rfl) (by
    unfold sites_word_inBody_b2
    simp only [hal2, chkB, andB, orB, condAnd, condOr, iteB, neqB, nltB, nleB, m8_9, m8_10, m8_11, m8_12, m8_13, m8_32, m8_34, m8_35, m8_39, m8_40, m8_41, m8_42, m8_43, m8_44, m8_45, m8_46, m8_47, m8_48, m8_60, m8_62, m8_64, m8_65, m8_67, m8_69, m8_80, m8_90, m8_92, m8_95, m8_97, m8_101, m8_112, m8_122, m8, orO_some, andO_some, Option.bind_some, getD_drop]
    exact iteF (ltF (by omega)))
  by_cases hc : (!(sgn [40] w.all[3]) || w.all[3].blank) = true
  · rw [hc, iteT rfl]; rfl
  · rw [Bool.eq_false_iff.2 hc, iteF rfl, pk (by omega), hloop, Option.bind_some, ← hal, Bool.false_or]
    by_cases ha : al.any (sgn [41]) = true
    · rw [if_pos ha, ha]
    · rw [if_neg ha, Bool.eq_false_iff.2 ha]; rfl
theorem role_eq (w : GSites_word) (hw : WordOk w) : sites_word_role w = some (partOf w.line_ (w.at_ - ahead w.line_)) := by
  obtain ⟨a, m, h1, h2, h3, h4⟩ := hw
  have hm : m < w.all.length := (List.getElem?_eq_some_iff.1 h3).1
  obtain ⟨n1, n2⟩ := line_n w.all a
  rw [← h1] at n1 n2
  have hah : 0 ≤ ahead w.line_ ∧ ahead w.line_ ≤ 2000000 := by unfold ahead; omega
  unfold sites_word_role
  rw [chkT (show I64 (w.line_.n - (w.line_.toks.length : Int)) by omega), chkT (show I64 (w.at_ - (w.line_.n - (w.line_.toks.length : Int))) by omega)]
  have e : w.at_ - (w.line_.n - (w.line_.toks.length : Int)) = w.at_ - ahead w.line_ := rfl
  unfold partOf
  by_cases k1 : w.line_.kind = 1
  · rw [if_pos (by simp [k1]), if_pos k1]
  rw [if_neg (by simp [k1]), if_neg k1]
  by_cases k8 : w.line_.kind = 8
  · rw [if_pos (by simp [k8]), e]
    obtain ⟨t1, t2, t3⟩ := line_two w.all a (by rw [← h1]; exact k8)
    rw [← h1] at t1 t2
    have hal : ahead w.line_ = 2 := by unfold ahead; rw [t1, t2, List.length_drop]; omega
    rw [hal, h2]
    by_cases i0 : (m : Int) - 2 = 0
    · rw [if_pos (by simp [i0]), if_neg (show ¬ ((m : Int) - 2 < 0) by omega), if_pos k8, if_pos i0]
    · rw [if_neg (by simp [i0])]
      by_cases ip : 0 < (m : Int) - 2
      · rw [decide_eq_true ip, inBody_eq w m h2 (by omega) hm h4, if_neg (show ¬ ((m : Int) - 2 < 0) by omega), if_pos k8, if_neg i0, t1, show ((m : Int) - 2).toNat = m - 2 by omega]
        cases bodyAt (w.all.drop 2) (m - 2) <;> rfl
      · rw [decide_eq_false ip, if_pos (show (m : Int) - 2 < 0 by omega)]; rfl
  rw [if_neg (by simp [k8]), if_neg k8, e]
  obtain ⟨i, hi⟩ : ∃ i, i = w.at_ - ahead w.line_ := ⟨_, rfl⟩
  have j2 : sites_word_role_j2 w () = some (if i < 0 then 7 else 6) := by
    unfold sites_word_role_j2 sites_word_role_j1
    rw [e, ← hi]
    by_cases h : 0 ≤ i
    · rw [if_pos (by simpa using h), if_neg (by omega)]
    · rw [if_neg (by simpa using h), if_pos (by omega)]
  rw [← hi]
  by_cases k9 : w.line_.kind = 9
  · rw [if_pos (by simp [k9]), if_pos k9]
    by_cases h : 0 ≤ i
    · rw [if_pos (by simpa using h), if_neg (by omega)]
    · rw [if_neg (by simpa using h), if_pos (by omega)]; rfl
  rw [if_neg (by simp [k9]), if_neg k9]
  by_cases k2 : w.line_.kind = 2
  · rw [if_pos (by simp [k2]), decide_eq_true k2]
    unfold sites_word_role_j5
    rw [if_pos rfl, j2, if_pos (show w.line_.kind = 2 ∨ w.line_.kind = 3 ∨ w.line_.kind = 4 ∨ w.line_.kind = 5 from .inl k2)]
  rw [if_neg (by simp [k2])]
  unfold sites_word_role_j5
  by_cases k5 : w.line_.kind = 5
  · rw [if_pos (by simp [k5]), j2, if_pos (show w.line_.kind = 2 ∨ w.line_.kind = 3 ∨ w.line_.kind = 4 ∨ w.line_.kind = 5 from .inr (.inr (.inr k5)))]
  rw [if_neg (by simp [k5])]
  unfold sites_word_role_j4 sites_word_role_j6
  by_cases k3 : w.line_.kind = 3
  · rw [if_pos (by simp [k3]), if_pos (by simp [k3]), j2, if_pos (show w.line_.kind = 2 ∨ w.line_.kind = 3 ∨ w.line_.kind = 4 ∨ w.line_.kind = 5 from .inr (.inl k3))]
  rw [if_neg (by simp [k3])]
  by_cases k4 : w.line_.kind = 4
  · rw [if_pos (by simp [k4]), j2, if_pos (show w.line_.kind = 2 ∨ w.line_.kind = 3 ∨ w.line_.kind = 4 ∨ w.line_.kind = 5 from .inr (.inr (.inl k4)))]
  rw [if_neg (by simp [k4]), if_neg (show ¬ (w.line_.kind = 2 ∨ w.line_.kind = 3 ∨ w.line_.kind = 4 ∨ w.line_.kind = 5) by simp [k2, k3, k4, k5])]
  unfold sites_word_role_j3 sites_word_role_j1
  split <;> rfl
end Go.Sh

set_option linter.unusedVariables false
set_option linter.unusedSimpArgs false
namespace Go.Sh
open Go
theorem wordsL_mem (x : GLine) (n : Int) (all : List GTok) : ∀ (rest : List GTok) (k : Nat), all.drop k = rest → ∀ w ∈ wordsL x n all k rest, ∃ (m : Nat) (t : GTok), all[m]? = some t ∧ w = ⟨t, x, n, (m : Int), all⟩ ∧ t.kind = 1
  | [], k, _ => fun w hw => by cases hw
  | t :: r, k, h => by
    have h1 : all[k]? = some t := by
      have : (all.drop k)[0]? = some t := by rw [h]; rfl
      simpa using this
    have h2 : all.drop (k + 1) = r := by
      have : (all.drop k).drop 1 = r := by rw [h]; rfl
      rw [← this, List.drop_drop]
    intro w hw
    rw [wordsL] at hw
    by_cases hk : t.kind = 1
    · rw [if_pos hk] at hw
      rcases List.mem_cons.1 hw with rfl | hw
      · exact ⟨k, t, h1, rfl, hk⟩
      · exact wordsL_mem x n all r (k + 1) h2 w hw
    · rw [if_neg hk] at hw
      exact wordsL_mem x n all r (k + 1) h2 w hw
theorem wordsL_len (x : GLine) (n : Int) (all : List GTok) : ∀ (rest : List GTok) (k : Nat), (wordsL x n all k rest).length ≤ rest.length
  | [], k => Nat.le_refl _
  | t :: r, k => by
    have := wordsL_len x n all r (k + 1)
    rw [wordsL]; split <;> simp only [List.length_cons] <;> omega
theorem linesW_len (l : List GTok) : ∀ (xs : List GLine) (n : Nat), (linesW l n xs).length ≤ xs.length * l.length
  | [], _ => by simp [linesW]
  | x :: r, n => by
    have h1 := linesW_len l r (n + 1)
    have h2 := wordsL_len x (n : Int) (allOf l x) (allOf l x) 0
    have h3 : (allOf l x).length ≤ l.length := by unfold allOf; rw [List.length_take, List.length_drop]; omega
    rw [linesW, List.length_append, List.length_cons, Nat.succ_mul]; omega
theorem wordsF_len : ∀ (fs : List GFile) (i : Nat), (∀ f ∈ fs, f.text.length ≤ 600) → (wordsF i fs).length ≤ fs.length * 360600
  | [], _, _ => by simp [wordsF]
  | f :: r, i, h => by
    have h0 := h f (by simp)
    have h1 := wordsF_len r (i + 1) (fun g hg => h g (by simp [hg]))
    have h2 := tokens_len (i : Int) f.text
    have h3 := linesOf_len (tokens (i : Int) f.text)
    have h4 := linesW_len (tokens (i : Int) f.text) (linesOf (tokens (i : Int) f.text)) 0
    have h5 : (linesOf (tokens (i : Int) f.text)).length * (tokens (i : Int) f.text).length ≤ 601 * 600 := Nat.mul_le_mul (by omega) (by omega)
    rw [wordsF, List.length_append, List.length_cons, Nat.succ_mul]; omega
theorem linesW_ok (l : List GTok) (hl : l.length ≤ 2000000) : ∀ (xs : List GLine) (n : Nat), (∀ x ∈ xs, x ∈ linesOf l) → ∀ w ∈ linesW l n xs, WordOk w
  | [], _, _ => fun w hw => by cases hw
  | x :: r, n, h => by
    intro w hw
    rw [linesW] at hw
    rcases List.mem_append.1 hw with hw | hw
    · obtain ⟨m, t, h1, rfl, h2⟩ := wordsL_mem x _ _ _ 0 (by rw [List.drop_zero]) w hw
      obtain ⟨p, rfl, a1, a2, a3⟩ := lines_ok l x (h x (by simp))
      have e := allOf_piece l p a1 a2 a3
      refine ⟨p.1, m, ?_, rfl, h1, ?_⟩
      · simp only [e]; rfl
      · simp only [e]; unfold segOf; rw [List.length_take, List.length_drop]; omega
    · exact linesW_ok l hl r (n + 1) (fun y hy => h y (by simp [hy])) w hw
theorem wordsF_ok : ∀ (fs : List GFile) (i : Nat), (∀ f ∈ fs, f.text.length ≤ 2000000) → ∀ w ∈ wordsF i fs, WordOk w
  | [], _, _ => fun w hw => by cases hw
  | f :: r, i, h => by
    intro w hw
    rw [wordsF] at hw
    have h0 := h f (by simp)
    have h2 := tokens_len (i : Int) f.text
    rcases List.mem_append.1 hw with hw | hw
    · exact linesW_ok _ (by omega) _ 0 (fun x hx => hx) w hw
    · exact wordsF_ok r (i + 1) (fun g hg => h g (by simp [hg])) w hw
def siteF (name : List UInt8) (w : GSites_word) : Option GSite := if w.tok.text = name then some ⟨w.tok.file_, w.tok.from_, w.tok.to, w.number, partOf w.line_ (w.at_ - ahead w.line_)⟩ else none
def gluF (name : List UInt8) (w : GSites_word) : Bool := @BEq.beq _ instBEqOfDecidableEq w.tok.text name && partOf w.line_ (w.at_ - ahead w.line_) == 5 && glueOf w.line_ (w.at_ - ahead w.line_)
def findF (name : List UInt8) (fs : List GFile) : List GSite := (wordsF 0 fs).filterMap (siteF name)
theorem find_eq (fs : List GFile) (name : List UInt8) (hl : fs.length ≤ 2000000) (h : ∀ f ∈ fs, f.text.length ≤ 2000000) (hw : (wordsF 0 fs).length ≤ 3000000) : sites_Find fs name = some (findF name fs) := by
  unfold sites_Find findF
  rw [words_eq fs hl h, Option.bind_some]
  have hok := wordsF_ok fs 0 h
  generalize wordsF 0 fs = ws at *
  obtain ⟨s, h1, rfl⟩ := foldS_rel (f := sites_Find_b1 name) (l := ws) (fun k s => s = (ws.take k).filterMap (siteF name)) (s0 := ([] : List GSite)) rfl (by
    rintro k s x hx rfl
    have hlt := (List.getElem?_eq_some_iff.1 hx).1
    have ht : ws.take (k + 1) = ws.take k ++ [x] := by rw [List.take_add_one, hx]; rfl
    have hxm := hok x (List.mem_of_getElem? hx)
    unfold sites_Find_b1
    by_cases hn : x.tok.text = name
    · rw [if_pos (by simp [hn]), role_eq x hxm, Option.bind_some]
      have hlen : ((ws.take k).filterMap (siteF name)).length ≤ k := Nat.le_trans (List.length_filterMap_le _ _) (by rw [List.length_take]; omega)
      rw [chkT (by omega)]
      refine ⟨_, rfl, ?_⟩
      rw [ht, List.filterMap_append]
      have : siteF name x = some ⟨x.tok.file_, x.tok.from_, x.tok.to, x.number, partOf x.line_ (x.at_ - ahead x.line_)⟩ := if_pos hn
      simp [List.filterMap_cons, this]
    · rw [if_neg (by simp [hn])]
      refine ⟨_, rfl, ?_⟩
      rw [ht, List.filterMap_append]
      have : siteF name x = none := if_neg hn
      simp [List.filterMap_cons, this])
  rw [h1, Option.bind_some, List.take_length]; rfl
theorem foldS_any {σ α : Type} {f : σ → α → Option (Step σ Bool)} (s0 : σ) (p : α → Bool) : ∀ (l : List α), (∀ x ∈ l, f s0 x = some (if p x = true then .done true else .next s0)) → foldS f l s0 = some (if l.any p = true then .inr true else .inl s0)
  | [], _ => rfl
  | x :: l, h => by
    have hx := h x (by simp)
    have ih := foldS_any s0 p l (fun y hy => h y (by simp [hy]))
    by_cases hp : p x = true
    · rw [if_pos hp] at hx
      simp only [foldS, hx, List.any_cons, hp, Bool.true_or, if_true]
    · rw [if_neg hp] at hx
      simp only [foldS, hx, List.any_cons, Bool.eq_false_iff.2 hp, Bool.false_or]
      exact ih
theorem glued_word (w : GSites_word) (hw : WordOk w) (h5 : partOf w.line_ (w.at_ - ahead w.line_) = 5) : ∃ (m : Nat) (t : GTok), w.at_ = (m : Int) ∧ 3 ≤ m ∧ m < w.all.length ∧ w.all.length ≤ 2000000 ∧ w.all[m - 1]? = some t ∧ glueOf w.line_ (w.at_ - ahead w.line_) = (sgn [35] t || sgn [35, 35] t || (w.all[m + 1]?.map (sgn [35, 35])).getD false) := by
  obtain ⟨a, m, h1, h2, h3, h4⟩ := hw
  have hm : m < w.all.length := (List.getElem?_eq_some_iff.1 h3).1
  have k8 : w.line_.kind = 8 := by
    unfold partOf at h5
    by_cases k1 : w.line_.kind = 1
    · rw [if_pos k1] at h5; simp at h5
    rw [if_neg k1] at h5
    by_cases i0 : w.at_ - ahead w.line_ < 0
    · rw [if_pos i0] at h5; simp at h5
    rw [if_neg i0] at h5
    by_cases k8 : w.line_.kind = 8
    · exact k8
    rw [if_neg k8] at h5
    split at h5
    · simp at h5
    · split at h5 <;> simp at h5
  obtain ⟨t1, t2, t3⟩ := line_two w.all a (by rw [← h1]; exact k8)
  rw [← h1] at t1 t2
  have hal : ahead w.line_ = 2 := by unfold ahead; rw [t1, t2, List.length_drop]; omega
  rw [hal, h2] at h5
  have hpos : 3 ≤ m := by
    unfold partOf at h5
    rw [if_neg (by omega)] at h5
    by_cases i0 : (m : Int) - 2 < 0
    · rw [if_pos i0] at h5; simp at h5
    rw [if_neg i0, if_pos k8] at h5
    by_cases i1 : (m : Int) - 2 = 0
    · rw [if_pos i1] at h5; simp at h5
    · omega
  refine ⟨m, w.all[m - 1], h2, hpos, hm, h4, List.getElem?_eq_getElem (by omega), ?_⟩
  rw [hal, h2]
  have g1 : ∀ s, isAt w.line_.toks ((m : Int) - 2 - 1) s = sgn s w.all[m - 1] := by
    intro s
    unfold isAt
    rw [if_pos (by omega), t1, List.getElem?_drop, show 2 + ((m : Int) - 2 - 1).toNat = m - 1 by omega, List.getElem?_eq_getElem (by omega)]; rfl
  have g2 : isAt w.line_.toks ((m : Int) - 2 + 1) [35, 35] = (w.all[m + 1]?.map (sgn [35, 35])).getD false := by
    unfold isAt
    rw [if_pos (by omega), t1, List.getElem?_drop, show 2 + ((m : Int) - 2 + 1).toNat = m + 1 by omega]
  unfold glueOf
  rw [g1, g1, g2]
theorem glued_eq (fs : List GFile) (name : List UInt8) (hl : fs.length ≤ 2000000) (h : ∀ f ∈ fs, f.text.length ≤ 2000000) : sites_Glued fs name = some ((wordsF 0 fs).any (gluF name)) := by
  unfold sites_Glued
  rw [words_eq fs hl h, Option.bind_some]
  have hok := wordsF_ok fs 0 h
  generalize wordsF 0 fs = ws at *
  rw [foldS_any false (gluF name) ws (fun x hx => by
    have hxm := hok x hx
    unfold sites_Glued_b1
    simp only [role_eq x hxm, ssign_eq, chkB, andB, orB, condAnd, condOr, iteB, neqB, nltB, nleB, m8_9, m8_10, m8_11, m8_12, m8_13, m8_32, m8_34, m8_35, m8_39, m8_40, m8_41, m8_42, m8_43, m8_44, m8_45, m8_46, m8_47, m8_48, m8_60, m8_62, m8_64, m8_65, m8_67, m8_69, m8_80, m8_90, m8_92, m8_95, m8_97, m8_101, m8_112, m8_122, m8, orO_some, andO_some, Option.bind_some, getD_drop]
    by_cases hn : x.tok.text = name
    · by_cases h5 : partOf x.line_ (x.at_ - ahead x.line_) = 5
      · obtain ⟨m, t, e1, e2, e3, e4, e5, e6⟩ := glued_word x hxm h5
        have hg : gluF name x = (sgn [35] t || sgn [35, 35] t || (x.all[m + 1]?.map (sgn [35, 35])).getD false) := by
          unfold gluF; rw [eqT hn, eqT h5, e6]; rfl
        rw [iteF (by rw [eqT hn, eqT h5]; rfl), e1, pk (by omega), ix_of e5 (by omega), Option.bind_some, hg]
        by_cases hc : (sgn [35] t || sgn [35, 35] t) = true
        · rw [hc, iteT rfl]
          simp only [Option.bind_some, Bool.true_or]
          rw [iteT rfl]; rfl
        · rw [Bool.eq_false_iff.2 hc, iteF rfl, pk (by omega)]
          by_cases hlt : m + 1 < x.all.length
          · have e7 : x.all[m + 1]? = some x.all[m + 1] := List.getElem?_eq_getElem hlt
            rw [iteT (ltT (by omega)), pk (by omega), show ((m : Int) + 1) = ((m + 1 : Nat) : Int) from rfl, ix_of e7 rfl, e7]
            simp only [Option.bind_some, Bool.false_or, Option.map_some, Option.getD_some]
            by_cases hs : sgn [35, 35] x.all[m + 1] = true
            · rw [hs, iteT rfl]; rfl
            · rw [Bool.eq_false_iff.2 hs, iteF rfl]; rfl
          · have e7 : x.all[m + 1]? = none := List.getElem?_eq_none (by omega)
            rw [iteF (ltF (by omega)), e7]
            simp only [Option.bind_some, Bool.false_or, Option.map_none, Option.getD_none]
            rw [iteF rfl]; rfl
      · have hg : gluF name x = false := by unfold gluF; rw [eqF h5]; simp
        rw [iteT (by rw [eqF h5]; simp), hg]; rfl
    · have hg : gluF name x = false := by unfold gluF; rw [eqF hn]; simp
      rw [iteT (by rw [eqF hn]; rfl), hg]; rfl), Option.bind_some]
  by_cases ha : ws.any (gluF name) = true
  · rw [if_pos ha, ha]
  · rw [if_neg ha, Bool.eq_false_iff.2 ha]; rfl
/-! ### by the document -/
theorem is19_eq (l : List GTok) (i : Int) (s : List UInt8) : emendref19_is l i s = some (isAt l i s) := by
  unfold emendref19_is isAt
  simp only [chkB, andB, orB, condAnd, condOr, iteB, neqB, nltB, nleB, m8_9, m8_10, m8_11, m8_12, m8_13, m8_32, m8_34, m8_35, m8_39, m8_40, m8_41, m8_42, m8_43, m8_44, m8_45, m8_46, m8_47, m8_48, m8_60, m8_62, m8_64, m8_65, m8_67, m8_69, m8_80, m8_90, m8_92, m8_95, m8_97, m8_101, m8_112, m8_122, m8, orO_some, andO_some, Option.bind_some, getD_drop]
  by_cases h0 : 0 ≤ i
  · rw [if_pos h0, leT h0]
    by_cases hl : i < (l.length : Int)
    · have e : l[i.toNat]? = some l[i.toNat] := List.getElem?_eq_getElem (by omega)
      rw [ltT hl, ix_of e (by omega), e]
      simp only [Option.bind_some, cond_true, Bool.true_and, Option.map_some, Option.getD_some, sgn, chkB, andB, orB, condAnd, condOr, iteB, neqB, nltB, nleB, m8_9, m8_10, m8_11, m8_12, m8_13, m8_32, m8_34, m8_35, m8_39, m8_40, m8_41, m8_42, m8_43, m8_44, m8_45, m8_46, m8_47, m8_48, m8_60, m8_62, m8_64, m8_65, m8_67, m8_69, m8_80, m8_90, m8_92, m8_95, m8_97, m8_101, m8_112, m8_122, m8, orO_some, andO_some, Option.bind_some, getD_drop]
    · rw [ltF (by omega), List.getElem?_eq_none (by omega)]; rfl
  · rw [if_neg h0, leF (by omega)]; rfl
theorem shut_loop (x : GLine) (i : Nat) (hi : i ≤ 2000000) (h1 : 1 ≤ i) : loopS (emendref19_part_b3 x (i : Int)) 1 = some (if ((x.toks.drop 1).take (i - 1)).any (sgn [41]) = true then .inr 5 else .inl ()) := by
  have key := loopS_of (f := emendref19_part_b3 x (i : Int)) (fun s => ∃ k : Nat, s = (k : Int) ∧ 1 ≤ k ∧ k ≤ i) (fun s => i - s.toNat) (fun s => (if ((x.toks.drop s.toNat).take (i - s.toNat)).any (sgn [41]) = true then .inr 5 else .inl () : Sum Unit Int)) (s := (1 : Int)) ⟨1, rfl, Nat.le_refl _, h1⟩ (by omega) (by
    rintro s ⟨k, rfl, hk1, hk2⟩
    unfold emendref19_part_b3
    simp only [is19_eq, chkB, andB, orB, condAnd, condOr, iteB, neqB, nltB, nleB, m8_9, m8_10, m8_11, m8_12, m8_13, m8_32, m8_34, m8_35, m8_39, m8_40, m8_41, m8_42, m8_43, m8_44, m8_45, m8_46, m8_47, m8_48, m8_60, m8_62, m8_64, m8_65, m8_67, m8_69, m8_80, m8_90, m8_92, m8_95, m8_97, m8_101, m8_112, m8_122, m8, orO_some, andO_some, Option.bind_some, getD_drop, Int.toNat_natCast]
    by_cases hlt : k < i
    · rw [iteT (ltT (by omega))]
      have hat : isAt x.toks (k : Int) [41] = (x.toks[k]?.map (sgn [41])).getD false := by
        unfold isAt; rw [if_pos (by omega), Int.toNat_natCast]
      rw [hat]
      by_cases hkl : k < x.toks.length
      · have hd : (x.toks.drop k).take (i - k) = x.toks[k] :: (x.toks.drop (k + 1)).take (i - (k + 1)) := by
          rw [List.drop_eq_getElem_cons hkl, show i - k = (i - (k + 1)) + 1 by omega, List.take_succ_cons]
        rw [List.getElem?_eq_getElem hkl, hd, List.any_cons]
        simp only [Option.map_some, Option.getD_some]
        by_cases hs : sgn [41] x.toks[k] = true
        · right; rw [hs, iteT rfl]; rfl
        · left
          refine ⟨((k + 1 : Nat) : Int), ?_, ⟨k + 1, rfl, by omega, by omega⟩, by omega, ?_⟩
          · rw [Bool.eq_false_iff.2 hs, iteF rfl, pk (by omega)]; rfl
          · rw [Bool.eq_false_iff.2 hs, Bool.false_or, Int.toNat_natCast]
      · left
        refine ⟨((k + 1 : Nat) : Int), ?_, ⟨k + 1, rfl, by omega, by omega⟩, by omega, ?_⟩
        · rw [List.getElem?_eq_none (by omega), iteF (b := (Option.map (sgn [41]) none).getD false) rfl, pk (by omega)]; rfl
        · rw [Int.toNat_natCast, List.drop_of_length_le (by omega), List.drop_of_length_le (by omega)]
          simp
    · right
      rw [iteF (ltF (by omega)), show i - k = 0 by omega]; simp)
  rw [key]; rfl
theorem part_eq (x : GLine) (i : Int) (hi : i ≤ 2000000) : emendref19_part x i = some (partOf x i) := by
  unfold emendref19_part partOf
  by_cases k1 : x.kind = 1
  · rw [if_pos (by simp [k1]), if_pos k1]
  rw [if_neg (by simp [k1]), if_neg k1]
  by_cases i0 : i < 0
  · rw [if_pos (by simp [i0]), if_pos i0]
  rw [if_neg (by simp [i0]), if_neg i0]
  by_cases k8 : x.kind = 8
  · rw [if_pos (by simp [k8]), if_pos k8]
    by_cases i1 : i = 0
    · rw [if_pos (by simp [i1]), if_pos i1]
    rw [if_neg (by simp [i1]), if_neg i1, is19_eq, Option.bind_some]
    obtain ⟨n, rfl⟩ : ∃ n : Nat, i = (n : Int) := ⟨i.toNat, by omega⟩
    rw [shut_loop x n (by omega) (by omega), Int.toNat_natCast]
    simp only [chkB, andB, orB, condAnd, condOr, iteB, neqB, nltB, nleB, m8_9, m8_10, m8_11, m8_12, m8_13, m8_32, m8_34, m8_35, m8_39, m8_40, m8_41, m8_42, m8_43, m8_44, m8_45, m8_46, m8_47, m8_48, m8_60, m8_62, m8_64, m8_65, m8_67, m8_69, m8_80, m8_90, m8_92, m8_95, m8_97, m8_101, m8_112, m8_122, m8, orO_some, andO_some, Option.bind_some, getD_drop]
    match ht : x.toks with
    | [] => rfl
    | [t] => rfl
    | t :: u :: r =>
      have e1 : isAt (t :: u :: r) 1 [40] = sgn [40] u := rfl
      have x1 : ix (t :: u :: r) 1 = some u := rfl
      rw [e1, x1]
      simp only [Option.bind_some, condOr, chkB, andB, orB, condAnd, condOr, iteB, neqB, nltB, nleB, m8_9, m8_10, m8_11, m8_12, m8_13, m8_32, m8_34, m8_35, m8_39, m8_40, m8_41, m8_42, m8_43, m8_44, m8_45, m8_46, m8_47, m8_48, m8_60, m8_62, m8_64, m8_65, m8_67, m8_69, m8_80, m8_90, m8_92, m8_95, m8_97, m8_101, m8_112, m8_122, m8, orO_some, andO_some, Option.bind_some, getD_drop, bodyAt]
      by_cases hc : (!sgn [40] u || u.blank) = true
      · rw [hc, iteT rfl]; rfl
      · rw [Bool.eq_false_iff.2 hc, iteF rfl, Bool.false_or]
        cases (((t :: u :: r).drop 1).take (n - 1)).any (sgn [41]) <;> rfl
  rw [if_neg (by simp [k8]), if_neg k8]
  by_cases k9 : x.kind = 9
  · rw [if_pos (by simp [k9]), if_pos k9]
  rw [if_neg (by simp [k9]), if_neg k9]
  unfold emendref19_part_j4
  by_cases k2 : x.kind = 2
  · rw [if_pos (by simp [k2]), if_pos (by simp [k2]), if_pos (show x.kind = 2 ∨ x.kind = 3 ∨ x.kind = 4 ∨ x.kind = 5 from .inl k2)]
  rw [if_neg (by simp [k2])]
  by_cases k5 : x.kind = 5
  · rw [if_pos (by simp [k5]), if_pos (by simp [k5]), if_pos (show x.kind = 2 ∨ x.kind = 3 ∨ x.kind = 4 ∨ x.kind = 5 from .inr (.inr (.inr k5)))]
  rw [if_neg (by simp [k5])]
  by_cases k3 : x.kind = 3
  · rw [if_pos (by simp [k3]), if_pos (by simp [k3]), if_pos (show x.kind = 2 ∨ x.kind = 3 ∨ x.kind = 4 ∨ x.kind = 5 from .inr (.inl k3))]
  rw [if_neg (by simp [k3])]
  by_cases k4 : x.kind = 4
  · rw [if_pos (by simp [k4]), if_pos (show x.kind = 2 ∨ x.kind = 3 ∨ x.kind = 4 ∨ x.kind = 5 from .inr (.inr (.inl k4)))]
  rw [if_neg (by simp [k4]), if_neg (show ¬ (x.kind = 2 ∨ x.kind = 3 ∨ x.kind = 4 ∨ x.kind = 5) by simp [k2, k3, k4, k5])]; rfl
end Go.Sh

set_option linter.unusedVariables false
set_option linter.unusedSimpArgs false
namespace Go.Sh
open Go
theorem seg_get (l : List GTok) (p : Int × Int) (h1 : 0 ≤ p.1) (h2 : p.1 ≤ p.2) (h3 : p.2 ≤ (l.length : Int)) (k : Nat) (hk : k < (segOf l p).length) : l[p.1.toNat + k]? = some (segOf l p)[k] := by
  have hl := seg_len l p h1 h2 h3
  have : (segOf l p)[k]? = some (segOf l p)[k] := List.getElem?_eq_getElem hk
  rw [← this]
  conv => rhs; unfold segOf
  rw [List.getElem?_take, if_pos (by omega), List.getElem?_drop]
theorem glue_expr (x : GLine) (i r : Int) (h1 : -2000000 ≤ i) (h2 : i ≤ 2000000) : (andO (decide (r = 5)) (chk (I64 (i - 1)) ((emendref19_is x.toks (i - 1) [35]).bind fun r_4 => (orO r_4 (chk (I64 (i - 1)) ((emendref19_is x.toks (i - 1) [35, 35]).bind fun r_5 => some r_5))).bind fun b_3 => (orO b_3 (chk (I64 (i + 1)) ((emendref19_is x.toks (i + 1) [35, 35]).bind fun r_6 => some r_6))).bind fun b_4 => some b_4))) = some (r == 5 && glueOf x i) := by
  rw [chkT (show I64 (i - 1) by omega), chkT (show I64 (i - 1) by omega)]
  simp only [is19_eq, Option.bind_some]
  unfold glueOf
  by_cases hr : r = 5
  · rw [decide_eq_true hr, eqT hr]
    cases h3 : isAt x.toks (i - 1) [35]
    · cases h4 : isAt x.toks (i - 1) [35, 35]
      · simp only [andO, orO, Bool.false_eq_true, if_false, if_true, Option.bind_some, Bool.or_self, Bool.true_and, Bool.false_or]
        rw [chkT (show I64 (i + 1) by omega)]; rfl
      · rfl
    · rfl
  · rw [decide_eq_false hr, eqF hr]; rfl
theorem line_loop (name : List UInt8) (f : Int) (l : List GTok) (xs : List GLine) (n : Nat) (p : Int × Int) (hn : xs[n]? = some (pieceOf l p)) (h1 : 0 ≤ p.1) (h2 : p.1 ≤ p.2) (h3 : p.2 ≤ (l.length : Int)) (hl : l.length ≤ 2000000) (hf : ∀ t ∈ l, t.file_ = f) (g : Bool) (out : List GSite)
    (hb : (out ++ (wordsL (pieceOf l p) (n : Int) (segOf l p) 0 (segOf l p)).filterMap (siteF name)).length ≤ 2000000000) :
    loopS (emendref19_Find_b6 name f l xs (n : Int) (pieceOf l p) (pieceOf l p)) (g, 0, out) = some (g || (wordsL (pieceOf l p) (n : Int) (segOf l p) 0 (segOf l p)).any (gluF name), out ++ (wordsL (pieceOf l p) (n : Int) (segOf l p) 0 (segOf l p)).filterMap (siteF name)) := by
  obtain ⟨f1, f2⟩ := piece_first l p h1 h2 h3
  have hsl := seg_len l p h1 h2 h3
  have hgetl := seg_get l p h1 h2 h3
  have hmem : ∀ t ∈ segOf l p, t ∈ l := fun t ht => List.mem_of_mem_drop (List.mem_of_mem_take ht)
  obtain ⟨n1, n2⟩ := line_n (segOf l p) p.1
  rw [← piece_line] at n1 n2
  obtain ⟨x, hx⟩ : ∃ x, x = pieceOf l p := ⟨_, rfl⟩
  obtain ⟨al, hal⟩ : ∃ al, al = segOf l p := ⟨_, rfl⟩
  rw [← hx] at hn hb f1 f2 n1 n2 ⊢
  rw [← hal] at hb hsl hgetl hmem n1 n2 ⊢
  have hxn : ix xs (n : Int) = some x := ix_of hn rfl
  refine loopS_of (f := emendref19_Find_b6 name f l xs (n : Int) x x) (fun s => ∃ k : Nat, s.2.1 = (k : Int) ∧ k ≤ al.length ∧ (s.2.2 ++ (wordsL x (n : Int) al k (al.drop k)).filterMap (siteF name)).length ≤ 2000000000) (fun s => al.length - s.2.1.toNat)
    (fun s => (s.1 || (wordsL x (n : Int) al s.2.1.toNat (al.drop s.2.1.toNat)).any (gluF name), s.2.2 ++ (wordsL x (n : Int) al s.2.1.toNat (al.drop s.2.1.toNat)).filterMap (siteF name))) (s := (g, (0 : Int), out)) ⟨0, rfl, Nat.zero_le _, hb⟩ (by simp only; omega) ?_
  rintro ⟨gl, ki, o⟩ ⟨k, e, hk, hbd⟩
  simp only at e hbd; subst e
  unfold emendref19_Find_b6
  simp only [hxn, Option.bind_some, Int.toNat_natCast]
  by_cases hlt : k < al.length
  · left
    have hd : al.drop k = al[k] :: al.drop (k + 1) := List.drop_eq_getElem_cons hlt
    rw [hd, wordsL] at hbd ⊢
    rw [if_pos (decide_eq_true (show (k : Int) < x.n by omega)), chkT (show I64 (x.first + (k : Int)) by omega), ix_of (hgetl k hlt) (by rw [f1]; omega)]
    simp only [Option.bind_some]
    have hfk := hf _ (hmem _ (List.getElem_mem hlt))
    obtain ⟨t, ht⟩ : ∃ t, t = al[k] := ⟨_, rfl⟩
    rw [← ht] at hbd hfk ⊢
    by_cases hk1 : t.kind = 1
    · rw [if_pos hk1] at hbd ⊢
      by_cases hnm : t.text = name
      · have hsf : siteF name ⟨t, x, (n : Int), (k : Int), al⟩ = some ⟨f, t.from_, t.to, (n : Int), partOf x ((k : Int) - (x.n - (x.toks.length : Int)))⟩ := by
          unfold siteF; simp only; rw [if_pos hnm, hfk]; rfl
        have hgf : gluF name ⟨t, x, (n : Int), (k : Int), al⟩ = (partOf x ((k : Int) - (x.n - (x.toks.length : Int))) == 5 && glueOf x ((k : Int) - (x.n - (x.toks.length : Int)))) := by
          unfold gluF; simp only; rw [eqT hnm]; rfl
        rw [List.filterMap_cons_some hsf] at hbd
        simp only [List.length_append, List.length_cons] at hbd
        rw [show orO (!decide (t.kind = 1)) (some (!decide (t.text = name))) = some false by rw [decide_eq_true hk1, decide_eq_true hnm]; rfl]
        rw [Option.bind_some, if_neg (by simp), chkT (show I64 ((k : Int) - (x.n - (x.toks.length : Int))) by omega), part_eq x _ (by omega), Option.bind_some, chkT (by omega), chkT (show I64 ((k : Int) - (x.n - (x.toks.length : Int))) by omega), glue_expr x _ _ (by omega) (by omega), Option.bind_some, ← hgf]
        refine ⟨(gl || gluF name ⟨t, x, (n : Int), (k : Int), al⟩, ((k + 1 : Nat) : Int), o ++ [⟨f, t.from_, t.to, (n : Int), partOf x ((k : Int) - (x.n - (x.toks.length : Int)))⟩]), ?_, ⟨k + 1, rfl, by omega, by simp only [List.length_append, List.length_cons, List.length_nil]; omega⟩, by simp only; omega, ?_⟩
        · cases gluF name ⟨t, x, (n : Int), (k : Int), al⟩
          · rw [if_neg (by simp), Bool.or_false, chkT (show I64 ((k : Int) + 1) by omega)]; rfl
          · rw [if_pos rfl, Bool.or_true, chkT (show I64 ((k : Int) + 1) by omega)]; rfl
        · simp only [Int.toNat_natCast, List.filterMap_cons_some hsf, List.any_cons, Bool.or_assoc, List.append_assoc, List.cons_append, List.nil_append]
      · have hsf : siteF name ⟨t, x, (n : Int), (k : Int), al⟩ = none := by unfold siteF; simp only; rw [if_neg hnm]
        have hgf : gluF name ⟨t, x, (n : Int), (k : Int), al⟩ = false := by unfold gluF; simp only; rw [eqF hnm]; rfl
        rw [List.filterMap_cons_none hsf] at hbd
        rw [show orO (!decide (t.kind = 1)) (some (!decide (t.text = name))) = some true by rw [decide_eq_true hk1, decide_eq_false hnm]; rfl]
        rw [Option.bind_some, if_pos rfl, chkT (show I64 ((k : Int) + 1) by omega)]
        refine ⟨(gl, ((k + 1 : Nat) : Int), o), rfl, ⟨k + 1, rfl, by omega, hbd⟩, by simp only; omega, ?_⟩
        simp only [Int.toNat_natCast, List.filterMap_cons_none hsf, List.any_cons, hgf, Bool.false_or]
    · rw [if_neg hk1] at hbd ⊢
      rw [show orO (!decide (t.kind = 1)) (some (!decide (t.text = name))) = some true by rw [decide_eq_false hk1]; rfl]
      rw [Option.bind_some, if_pos rfl, chkT (show I64 ((k : Int) + 1) by omega)]
      refine ⟨(gl, ((k + 1 : Nat) : Int), o), rfl, ⟨k + 1, rfl, by omega, hbd⟩, by simp only; omega, ?_⟩
      simp only [Int.toNat_natCast]
  · right
    rw [if_neg (by simp; omega), List.drop_of_length_le (by omega)]
    simp [wordsL]
theorem file_loop (name : List UInt8) (f : Int) (l : List GTok) (hl : l.length ≤ 2000000) (hf : ∀ t ∈ l, t.file_ = f) (g : Bool) (out : List GSite)
    (hb : (out ++ (linesW l 0 (linesOf l)).filterMap (siteF name)).length ≤ 2000000000) :
    loopS (emendref19_Find_b4 name f l (linesOf l)) (g, 0, out) = some (g || (linesW l 0 (linesOf l)).any (gluF name), out ++ (linesW l 0 (linesOf l)).filterMap (siteF name)) := by
  have hok := lines_ok l
  have hxl := linesOf_len l
  generalize linesOf l = xs at *
  refine loopS_of (f := emendref19_Find_b4 name f l xs) (fun s => ∃ k : Nat, s.2.1 = (k : Int) ∧ k ≤ xs.length ∧ (s.2.2 ++ (linesW l k (xs.drop k)).filterMap (siteF name)).length ≤ 2000000000) (fun s => xs.length - s.2.1.toNat)
    (fun s => (s.1 || (linesW l s.2.1.toNat (xs.drop s.2.1.toNat)).any (gluF name), s.2.2 ++ (linesW l s.2.1.toNat (xs.drop s.2.1.toNat)).filterMap (siteF name))) (s := (g, (0 : Int), out)) ⟨0, rfl, Nat.zero_le _, hb⟩ (by simp only; omega) ?_
  rintro ⟨gl, ki, o⟩ ⟨k, e, hk, hbd⟩
  simp only at e hbd; subst e
  unfold emendref19_Find_b4
  simp only [Int.toNat_natCast]
  by_cases hlt : k < xs.length
  · left
    have hd : xs.drop k = xs[k] :: xs.drop (k + 1) := List.drop_eq_getElem_cons hlt
    obtain ⟨p, hp, a1, a2, a3⟩ := hok xs[k] (List.getElem_mem hlt)
    have hg : xs[k]? = some (pieceOf l p) := by rw [List.getElem?_eq_getElem hlt, hp]
    rw [hd, linesW, hp, allOf_piece l p a1 a2 a3, List.filterMap_append] at hbd
    rw [hd, linesW, hp, allOf_piece l p a1 a2 a3, List.filterMap_append, List.any_append]
    obtain ⟨n1, n2⟩ := line_n (segOf l p) p.1
    rw [← piece_line] at n1 n2
    have hsl := seg_len l p a1 a2 a3
    rw [if_pos (decide_eq_true (show (k : Int) < (xs.length : Int) by omega)), ix_of hg rfl]
    simp only [Option.bind_some]
    rw [chkT (show I64 ((pieceOf l p).n - ((pieceOf l p).toks.length : Int)) by omega), line_loop name f l xs k p hg a1 a2 a3 hl hf gl o (by simp only [List.length_append] at hbd ⊢; omega), Option.bind_some]
    unfold emendref19_Find_j5
    simp only
    rw [chkT (show I64 ((k : Int) + 1) by omega)]
    refine ⟨_, rfl, ⟨k + 1, rfl, by omega, by simp only [List.length_append] at hbd ⊢; omega⟩, by simp only; omega, ?_⟩
    simp only [Int.toNat_natCast, Bool.or_assoc, List.append_assoc]
    rfl
  · right
    rw [if_neg (by simp; omega), List.drop_of_length_le (by omega)]
    simp [linesW]
theorem rfind_eq (fs : List GFile) (name : List UInt8) (hl : fs.length ≤ 2000000) (h : ∀ f ∈ fs, f.text.length ≤ 2000000) (hw : (wordsF 0 fs).length ≤ 3000000) : emendref19_Find fs name = some (findF name fs, (wordsF 0 fs).any (gluF name)) := by
  unfold emendref19_Find findF
  have key : loopS (emendref19_Find_b2 fs name) (false, 0, []) = some ((wordsF 0 fs).any (gluF name), (wordsF 0 fs).filterMap (siteF name)) := by
    refine loopS_of (f := emendref19_Find_b2 fs name) (fun s => ∃ k : Nat, s.2.1 = (k : Int) ∧ k ≤ fs.length ∧ (s.2.2 ++ (wordsF k (fs.drop k)).filterMap (siteF name)).length ≤ 2000000000) (fun s => fs.length - s.2.1.toNat)
      (fun s => (s.1 || (wordsF s.2.1.toNat (fs.drop s.2.1.toNat)).any (gluF name), s.2.2 ++ (wordsF s.2.1.toNat (fs.drop s.2.1.toNat)).filterMap (siteF name))) (s := (false, (0 : Int), ([] : List GSite))) ⟨0, rfl, Nat.zero_le _, by
        have := List.length_filterMap_le (siteF name) (wordsF 0 fs)
        simp only [List.nil_append, List.drop_zero]; omega⟩ (by simp only; omega) ?_
    rintro ⟨gl, ki, o⟩ ⟨k, e, hk, hbd⟩
    simp only at e hbd; subst e
    unfold emendref19_Find_b2
    simp only [Int.toNat_natCast]
    by_cases hlt : k < fs.length
    · left
      have hd : fs.drop k = fs[k] :: fs.drop (k + 1) := List.drop_eq_getElem_cons hlt
      have htx := h fs[k] (List.getElem_mem hlt)
      have h1 := tokens_len (k : Int) fs[k].text
      rw [hd, wordsF, List.filterMap_append] at hbd
      rw [hd, wordsF, List.filterMap_append, List.any_append]
      rw [if_pos (decide_eq_true (show (k : Int) < (fs.length : Int) by omega)), ix_at hlt, Option.bind_some, rtokens_eq _ _ htx, Option.bind_some, rlines_eq _ (by omega), Option.bind_some,
        file_loop name (k : Int) _ (by omega) (fun t ht => by unfold tokens at ht; obtain ⟨q, _, rfl⟩ := List.mem_map.1 ht; rfl) gl o (by simp only [List.length_append] at hbd ⊢; omega), Option.bind_some]
      unfold emendref19_Find_j3
      simp only
      rw [chkT (show I64 ((k : Int) + 1) by omega)]
      refine ⟨_, rfl, ⟨k + 1, rfl, by omega, by simp only [List.length_append] at hbd ⊢; omega⟩, by simp only; omega, ?_⟩
      simp only [Int.toNat_natCast, Bool.or_assoc, List.append_assoc]
      rfl
    · right
      rw [if_neg (by simp; omega), List.drop_of_length_le (by omega)]
      simp [wordsF]
  rw [key]; rfl
/-! ### the laws -/
theorem short_eq (fs : List GFile) (m : Int) (hm : m ≤ 1000000) : emendref11_Short fs m = some (decide (fs.length ≤ 6) && fs.all (fun f => decide ((f.text.length : Int) ≤ m) && decide (f.path.length ≤ 100))) := by
  unfold emendref11_Short
  by_cases h6 : 6 < fs.length
  · rw [if_pos (decide_eq_true (by omega)), decide_eq_false (by omega)]; rfl
  rw [if_neg (by simp; omega), decide_eq_true (show fs.length ≤ 6 by omega), Bool.true_and]
  have hloop := loopS_find (f := emendref11_Short_b2 fs m) fs (fun f => !(decide ((f.text.length : Int) ≤ m) && decide (f.path.length ≤ 100))) false (by omega) (fun k hk => by
    unfold emendref11_Short_b2
    simp only [ix_at hk, chkB, andB, orB, condAnd, condOr, iteB, neqB, nltB, nleB, m8_9, m8_10, m8_11, m8_12, m8_13, m8_32, m8_34, m8_35, m8_39, m8_40, m8_41, m8_42, m8_43, m8_44, m8_45, m8_46, m8_47, m8_48, m8_60, m8_62, m8_64, m8_65, m8_67, m8_69, m8_80, m8_90, m8_92, m8_95, m8_97, m8_101, m8_112, m8_122, m8, orO_some, andO_some, Option.bind_some, getD_drop]
    rw [iteT (ltT (by omega))]
    by_cases h1 : (fs[k].text.length : Int) ≤ m
    · by_cases h2 : fs[k].path.length ≤ 100
      · rw [iteF (by rw [ltF h1, ltF (by omega)]; rfl), pk (by omega), leT h1, show decide (fs[k].path.length ≤ 100) = true from decide_eq_true h2]; rfl
      · rw [iteT (by rw [ltT (a := 100) (by omega)]; simp), show decide (fs[k].path.length ≤ 100) = false from decide_eq_false h2]; simp
    · rw [iteT (by rw [ltT (by omega)]; rfl), leF (by omega)]; rfl) (by
    unfold emendref11_Short_b2
    rw [if_neg (by simp)])
  rw [hloop, Option.bind_some]
  by_cases ha : fs.all (fun f => decide ((f.text.length : Int) ≤ m) && decide (f.path.length ≤ 100)) = true
  · rw [if_neg (by rw [List.any_eq_true]; rintro ⟨x, hx, h⟩; rw [List.all_eq_true.1 ha x hx] at h; cases h), ha]; rfl
  · rw [if_pos (by
      rw [List.any_eq_true]
      have : ∃ x ∈ fs, ¬ (decide ((x.text.length : Int) ≤ m) && decide (x.path.length ≤ 100)) = true := by
        apply Classical.byContradiction
        intro hn
        exact ha (List.all_eq_true.2 fun x hx => Classical.byContradiction fun h => hn ⟨x, hx, h⟩)
      obtain ⟨x, hx, h⟩ := this
      exact ⟨x, hx, by rw [Bool.eq_false_iff.2 h]; rfl⟩), Bool.eq_false_iff.2 ha]
theorem short_true {fs : List GFile} {m : Int} (h : (decide (fs.length ≤ 6) && fs.all (fun f => decide ((f.text.length : Int) ≤ m) && decide (f.path.length ≤ 100))) = true) : fs.length ≤ 6 ∧ ∀ f ∈ fs, (f.text.length : Int) ≤ m := by
  rw [Bool.and_eq_true] at h
  refine ⟨of_decide_eq_true h.1, fun f hf => ?_⟩
  have := List.all_eq_true.1 h.2 f hf
  rw [Bool.and_eq_true] at this
  exact of_decide_eq_true this.1
theorem ssame_eq (a b : List GSite) (h : a.length ≤ 9223372036854775806) : emendref19_Same a b = some (decide (a = b)) := by
  unfold emendref19_Same
  by_cases hl : a.length = b.length
  · rw [if_neg (by simp [hl])]
    rw [loopS_same (f := emendref19_Same_b2 a b) a b id false h hl (fun k hk hk2 => by
      unfold emendref19_Same_b2
      simp only [ix_at hk, ix_at hk2, chkB, andB, orB, condAnd, condOr, iteB, neqB, nltB, nleB, m8_9, m8_10, m8_11, m8_12, m8_13, m8_32, m8_34, m8_35, m8_39, m8_40, m8_41, m8_42, m8_43, m8_44, m8_45, m8_46, m8_47, m8_48, m8_60, m8_62, m8_64, m8_65, m8_67, m8_69, m8_80, m8_90, m8_92, m8_95, m8_97, m8_101, m8_112, m8_122, m8, orO_some, andO_some, Option.bind_some, getD_drop]
      rw [iteT (ltT (by omega))]
      by_cases hp : a[k] = b[k]
      · rw [iteF (by rw [eqT hp]; rfl), pk (by omega), if_pos (show id a[k] = id b[k] from hp)]; rfl
      · rw [iteT (by rw [eqF hp]; rfl), if_neg (show ¬ id a[k] = id b[k] from hp)]) (by
      unfold emendref19_Same_b2
      rw [if_neg (by simp)]), Option.bind_some]
    simp only [List.map_id]
    by_cases e : a = b
    · rw [if_pos e, decide_eq_true e]; rfl
    · rw [if_neg e, decide_eq_false e]
  · rw [if_pos (by simp; omega), decide_eq_false (fun e => hl (by rw [e]))]
theorem findF_len (name : List UInt8) (fs : List GFile) (h6 : fs.length ≤ 6) (h : ∀ f ∈ fs, f.text.length ≤ 600) : (wordsF 0 fs).length ≤ 3000000 ∧ (findF name fs).length ≤ 3000000 := by
  have h1 := wordsF_len fs 0 h
  have h2 := List.length_filterMap_le (siteF name) (wordsF 0 fs)
  have h3 : fs.length * 360600 ≤ 6 * 360600 := Nat.mul_le_mul_right _ h6
  unfold findF; omega
theorem sitesFind_law (fs : List GFile) (name : List UInt8) : emendlaw19_SitesFind fs name = some true := by
  unfold emendlaw19_SitesFind
  rw [awake19, Option.bind_some, short_eq fs 600 (by omega), Option.bind_some]
  by_cases hs : (decide (fs.length ≤ 6) && fs.all (fun f => decide ((f.text.length : Int) ≤ 600) && decide (f.path.length ≤ 100))) = true
  · obtain ⟨h6, ht⟩ := short_true hs
    have h600 : ∀ f ∈ fs, f.text.length ≤ 600 := fun f hf => by have := ht f hf; omega
    have h2m : ∀ f ∈ fs, f.text.length ≤ 2000000 := fun f hf => by have := ht f hf; omega
    obtain ⟨b1, b2⟩ := findF_len name fs h6 h600
    rw [hs, if_neg (by simp), find_eq fs name (by omega) h2m b1, Option.bind_some, rfind_eq fs name (by omega) h2m b1, Option.bind_some, glued_eq fs name (by omega) h2m, Option.bind_some, ssame_eq _ _ (by omega)]
    simp [andO]
  · rw [Bool.eq_false_iff.2 hs]; rfl
theorem keyword_eq (s : List UInt8) : parse_Keyword s = emendref16_Keyword s := by
  have hk : keywords.length ≤ 2000000 := by decide
  have e : emendref16_Keyword_l0 = keywords := by unfold emendref16_Keyword_l0 keywords; rfl
  have h1 : slices_Index_Lstring_string keywords s = some (if keywords.any (fun y => decide (s = y)) = true then ((keywords.findIdx (fun y => decide (s = y)) : Nat) : Int) else -1) := by
    unfold slices_Index_Lstring_string
    have hl := loopS_ix (f := slices_Index_Lstring_string_b2 keywords s) keywords.length (by omega) (fun k x => x = (k : Int) ∧ (keywords.take k).any (fun y => decide (s = y)) = false) (fun r => r = if keywords.any (fun y => decide (s = y)) = true then .inr ((keywords.findIdx (fun y => decide (s = y)) : Nat) : Int) else .inl ()) (s0 := (0 : Int)) ⟨rfl, rfl⟩ (by
      rintro k x hk ⟨rfl, h⟩
      have hstep : slices_Index_Lstring_string_b2 keywords s (k : Int) = if s = keywords[k] then some (.done (.inr (k : Int))) else some (.next ((k + 1 : Nat) : Int)) := by
        unfold slices_Index_Lstring_string_b2
        simp only [ix_at hk, chkB, andB, orB, condAnd, condOr, iteB, neqB, nltB, nleB, m8_9, m8_10, m8_11, m8_12, m8_13, m8_32, m8_34, m8_35, m8_39, m8_40, m8_41, m8_42, m8_43, m8_44, m8_45, m8_46, m8_47, m8_48, m8_60, m8_62, m8_64, m8_65, m8_67, m8_69, m8_80, m8_90, m8_92, m8_95, m8_97, m8_101, m8_112, m8_122, m8, orO_some, andO_some, Option.bind_some, getD_drop]
        rw [iteT (ltT (by omega))]
        by_cases hs : s = keywords[k]
        · rw [iteT (eqT hs), if_pos hs]
        · rw [iteF (eqF hs), if_neg hs, pk (by omega)]; rfl
      rw [hstep]
      by_cases hs : s = keywords[k]
      · right
        rw [if_pos hs]
        refine ⟨_, rfl, ?_⟩
        have hany : keywords.any (fun y => decide (s = y)) = true := List.any_eq_true.2 ⟨keywords[k], List.getElem_mem hk, decide_eq_true hs⟩
        have hidx : keywords.findIdx (fun y => decide (s = y)) = k := by
          rw [List.findIdx_eq hk]
          refine ⟨decide_eq_true hs, fun j hj => ?_⟩
          have : (keywords.take k)[j]? = some keywords[j] := by rw [List.getElem?_take, if_pos hj]; exact List.getElem?_eq_getElem (by omega)
          have hm : keywords[j] ∈ keywords.take k := List.mem_of_getElem? this
          have := List.any_eq_false.1 h _ hm
          simpa using this
        rw [if_pos hany, hidx]
      · left
        refine ⟨((k + 1 : Nat) : Int), ?_, rfl, ?_⟩
        · rw [if_neg hs]
        · rw [List.take_add_one, List.getElem?_eq_getElem hk, List.any_append, h]
          simp [hs]) (by
      rintro x ⟨rfl, h⟩
      rw [List.take_length] at h
      refine ⟨.inl (), ?_, by rw [h]; rfl⟩
      unfold slices_Index_Lstring_string_b2
      simp only [chkB, andB, orB, condAnd, condOr, iteB, neqB, nltB, nleB, m8_9, m8_10, m8_11, m8_12, m8_13, m8_32, m8_34, m8_35, m8_39, m8_40, m8_41, m8_42, m8_43, m8_44, m8_45, m8_46, m8_47, m8_48, m8_60, m8_62, m8_64, m8_65, m8_67, m8_69, m8_80, m8_90, m8_92, m8_95, m8_97, m8_101, m8_112, m8_122, m8, orO_some, andO_some, Option.bind_some, getD_drop]
      exact iteF (ltF (by omega)))
    obtain ⟨r, g1, rfl⟩ := hl
    rw [g1, Option.bind_some]
    by_cases ha : keywords.any (fun y => decide (s = y)) = true
    · rw [if_pos ha, if_pos ha]
    · rw [if_neg ha, if_neg ha]; rfl
  have h2 : emendref16_in s keywords = some (keywords.any (fun y => decide (y = s))) := by
    unfold emendref16_in
    rw [loopS_find (f := emendref16_in_b2 s keywords) keywords (fun y => decide (y = s)) true hk (fun k hk => by
      unfold emendref16_in_b2
      simp only [ix_at hk, chkB, andB, orB, condAnd, condOr, iteB, neqB, nltB, nleB, m8_9, m8_10, m8_11, m8_12, m8_13, m8_32, m8_34, m8_35, m8_39, m8_40, m8_41, m8_42, m8_43, m8_44, m8_45, m8_46, m8_47, m8_48, m8_60, m8_62, m8_64, m8_65, m8_67, m8_69, m8_80, m8_90, m8_92, m8_95, m8_97, m8_101, m8_112, m8_122, m8, orO_some, andO_some, Option.bind_some, getD_drop]
      rw [iteT (ltT (by omega))]
      by_cases hs : keywords[k] = s
      · rw [iteT (eqT hs), iteT (eqT hs)]
      · rw [iteF (eqF hs), iteF (eqF hs), pk (by omega)]; rfl) (by
      unfold emendref16_in_b2
      rw [if_neg (by simp)]), Option.bind_some]
    by_cases ha : keywords.any (fun y => decide (y = s)) = true
    · rw [if_pos ha, ha]
    · rw [if_neg ha, Bool.eq_false_iff.2 ha]; rfl
  have hc : keywords.any (fun y => decide (y = s)) = keywords.any (fun y => decide (s = y)) := by
    congr 1; funext y
    by_cases h : y = s
    · rw [h]
    · rw [decide_eq_false h, decide_eq_false (Ne.symm h)]
  unfold parse_Keyword slices_Contains_Lstring_string emendref16_Keyword
  rw [e, h1, h2, hc]
  simp only [Option.bind_some]
  by_cases ha : keywords.any (fun y => decide (s = y)) = true
  · rw [if_pos ha, ha, decide_eq_true (by omega)]
  · rw [if_neg ha, Bool.eq_false_iff.2 ha]; rfl
theorem keyword_some (s : List UInt8) : ∃ b, parse_Keyword s = some b := by
  rw [keyword_eq]
  unfold emendref16_Keyword emendref16_in
  have e : emendref16_Keyword_l0.length ≤ 2000000 := by unfold emendref16_Keyword_l0; decide
  rw [loopS_find (f := emendref16_in_b2 s emendref16_Keyword_l0) emendref16_Keyword_l0 (fun y => decide (y = s)) true e (fun k hk => by
      unfold emendref16_in_b2
      simp only [ix_at hk, chkB, andB, orB, condAnd, condOr, iteB, neqB, nltB, nleB, m8_9, m8_10, m8_11, m8_12, m8_13, m8_32, m8_34, m8_35, m8_39, m8_40, m8_41, m8_42, m8_43, m8_44, m8_45, m8_46, m8_47, m8_48, m8_60, m8_62, m8_64, m8_65, m8_67, m8_69, m8_80, m8_90, m8_92, m8_95, m8_97, m8_101, m8_112, m8_122, m8, orO_some, andO_some, Option.bind_some, getD_drop]
      rw [iteT (ltT (by omega))]
      by_cases hs : emendref16_Keyword_l0[k] = s
      · rw [iteT (eqT hs), iteT (eqT hs)]
      · rw [iteF (eqF hs), iteF (eqF hs), pk (by omega)]; rfl) (by
      unfold emendref16_in_b2
      rw [if_neg (by simp)]), Option.bind_some]
  split <;> exact ⟨_, rfl⟩
theorem right_eq (name : List UInt8) (h : name.length ≤ 2000000) : ∃ b, sites_Right name = some b ∧ emendref19_Right name = some b := by
  obtain ⟨k, hk⟩ := keyword_some name
  have hk2 := hk
  rw [keyword_eq] at hk2
  unfold sites_Right emendref19_Right
  rw [pone_eq name h, rone_eq name h, hk, hk2]
  simp only [chkB, andB, orB, condAnd, condOr, iteB, neqB, nltB, nleB, m8_9, m8_10, m8_11, m8_12, m8_13, m8_32, m8_34, m8_35, m8_39, m8_40, m8_41, m8_42, m8_43, m8_44, m8_45, m8_46, m8_47, m8_48, m8_60, m8_62, m8_64, m8_65, m8_67, m8_69, m8_80, m8_90, m8_92, m8_95, m8_97, m8_101, m8_112, m8_122, m8, orO_some, andO_some, Option.bind_some, getD_drop]
  cases (oneOf name).2 <;> cases ((oneOf name).1.kind == 1) <;> exact ⟨_, rfl, rfl⟩
theorem sitesRight_law (fs : List GFile) (name : List UInt8) : emendlaw19_SitesRight fs name = some true := by
  unfold emendlaw19_SitesRight
  rw [awake19, Option.bind_some, short_eq fs 600 (by omega), Option.bind_some]
  by_cases hs : (decide (fs.length ≤ 6) && fs.all (fun f => decide ((f.text.length : Int) ≤ 600) && decide (f.path.length ≤ 100))) = true
  · obtain ⟨h6, ht⟩ := short_true hs
    have h600 : ∀ f ∈ fs, f.text.length ≤ 600 := fun f hf => by have := ht f hf; omega
    have h2m : ∀ f ∈ fs, f.text.length ≤ 2000000 := fun f hf => by have := ht f hf; omega
    obtain ⟨b1, b2⟩ := findF_len name fs h6 h600
    rw [hs]
    by_cases hn : 200 < name.length
    · rw [show orO (!true) (some (decide ((200 : Int) < (name.length : Int)))) = some true by rw [decide_eq_true (by omega)]; rfl]; rfl
    rw [show orO (!true) (some (decide ((200 : Int) < (name.length : Int)))) = some false by rw [decide_eq_false (by omega)]; rfl, Option.bind_some, if_neg (by simp)]
    obtain ⟨b, r1, r2⟩ := right_eq name (by omega)
    unfold sites_Free
    rw [r1, r2, find_eq fs name (by omega) h2m b1, rfind_eq fs name (by omega) h2m b1]
    simp only [Option.bind_some, chkB, andB, orB, condAnd, condOr, iteB, neqB, nltB, nleB, m8_9, m8_10, m8_11, m8_12, m8_13, m8_32, m8_34, m8_35, m8_39, m8_40, m8_41, m8_42, m8_43, m8_44, m8_45, m8_46, m8_47, m8_48, m8_60, m8_62, m8_64, m8_65, m8_67, m8_69, m8_80, m8_90, m8_92, m8_95, m8_97, m8_101, m8_112, m8_122, m8, orO_some, andO_some, Option.bind_some, getD_drop]
    cases b <;> simp
  · rw [Bool.eq_false_iff.2 hs]; rfl
theorem sitesSpelling_law (fs : List GFile) (s : GSite) : emendlaw19_SitesSpelling fs s = some true := by
  unfold emendlaw19_SitesSpelling
  rw [awake19, Option.bind_some, short_eq fs 600 (by omega), Option.bind_some]
  by_cases hs : (decide (fs.length ≤ 6) && fs.all (fun f => decide ((f.text.length : Int) ≤ 600) && decide (f.path.length ≤ 100))) = true
  · rw [hs, if_neg (by simp)]
    unfold sites_Spelling
    simp only [chkB, andB, orB, condAnd, condOr, iteB, neqB, nltB, nleB, m8_9, m8_10, m8_11, m8_12, m8_13, m8_32, m8_34, m8_35, m8_39, m8_40, m8_41, m8_42, m8_43, m8_44, m8_45, m8_46, m8_47, m8_48, m8_60, m8_62, m8_64, m8_65, m8_67, m8_69, m8_80, m8_90, m8_92, m8_95, m8_97, m8_101, m8_112, m8_122, m8, orO_some, andO_some, Option.bind_some, getD_drop]
    by_cases hc : (ilt s.file_ 0 || ile (fs.length : Int) s.file_) = true
    · have h4 : (ilt s.file_ 0 || ile (fs.length : Int) s.file_ || ilt s.from_ 0 || ilt s.to s.from_) = true := by rw [hc]; simp
      simp only [h4, cond_true, Option.bind_some]
      simp
    · have hc := Bool.eq_false_iff.2 hc
      by_cases h4 : (ilt s.file_ 0 || ile (fs.length : Int) s.file_ || ilt s.from_ 0 || ilt s.to s.from_) = true
      · simp only [h4, cond_true, Option.bind_some]
        simp
      · have h4 := Bool.eq_false_iff.2 h4
        simp only [Bool.or_eq_false_iff] at h4
        obtain ⟨⟨⟨c1, c2⟩, c3⟩, c4⟩ := h4
        rw [c1, c2, c3, c4]
        simp only [ilt, ile, decide_eq_false_iff_not] at c1 c2 c3 c4
        have hlt : s.file_.toNat < fs.length := by omega
        rw [ix_of (List.getElem?_eq_getElem hlt) (by omega)]
        simp only [Bool.or_self, cond_false, Option.bind_some, chkB, andB, orB, condAnd, condOr, iteB, neqB, nltB, nleB, m8_9, m8_10, m8_11, m8_12, m8_13, m8_32, m8_34, m8_35, m8_39, m8_40, m8_41, m8_42, m8_43, m8_44, m8_45, m8_46, m8_47, m8_48, m8_60, m8_62, m8_64, m8_65, m8_67, m8_69, m8_80, m8_90, m8_92, m8_95, m8_97, m8_101, m8_112, m8_122, m8, orO_some, andO_some, Option.bind_some, getD_drop]
        by_cases hto : ((fs[s.file_.toNat].text.length : Int) < s.to)
        · rw [ltT hto]; simp
        · rw [ltF (by omega), iteF rfl, pk (by omega), Option.bind_some, iteF rfl]
          simp only [Bool.true_and]
          rw [iteT (by rfl), pk (by omega)]
          simp
  · rw [Bool.eq_false_iff.2 hs]; rfl
end Go.Sh
