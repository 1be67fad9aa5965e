/-
  Where names are written, in plain words: the words of files, the part that each has; by the program. No program in sight.
-/
import Derived.Test.YtfocleohejljpaaDoorC3a
import Derived.Test.YtfocleohejljpaaDoorA10
set_option linter.unusedVariables false
set_option linter.unusedSimpArgs false
namespace Go.Sh
open Go
theorem awake19 : emendlaw19_awake = some true := by kernel_rfl
theorem lines_ok (l : List GTok) : ∀ x ∈ linesOf l, ∃ p : Int × Int, x = pieceOf l p ∧ 0 ≤ p.1 ∧ p.1 ≤ p.2 ∧ p.2 ≤ (l.length : Int) := by
  intro x hx
  unfold linesOf at hx
  obtain ⟨p, hp, rfl⟩ := List.mem_map.1 hx
  obtain ⟨h1, h2, h3⟩ := (pieces_bound l.length l 0 0 (by omega) (Nat.le_refl _)).2 p hp
  exact ⟨p, rfl, h1, h2, h3⟩
def segOf (l : List GTok) (p : Int × Int) : List GTok := (l.drop p.1.toNat).take (p.2.toNat - p.1.toNat)
theorem seg_len (l : List GTok) (p : Int × Int) (h1 : 0 ≤ p.1) (h2 : p.1 ≤ p.2) (h3 : p.2 ≤ (l.length : Int)) : ((segOf l p).length : Int) = p.2 - p.1 := by
  unfold segOf; rw [List.length_take, List.length_drop]; omega
theorem piece_line (l : List GTok) (p : Int × Int) : pieceOf l p = lineOf (segOf l p) p.1 := rfl
theorem piece_first (l : List GTok) (p : Int × Int) (h1 : 0 ≤ p.1) (h2 : p.1 ≤ p.2) (h3 : p.2 ≤ (l.length : Int)) : (pieceOf l p).first = p.1 ∧ (pieceOf l p).n = p.2 - p.1 := by
  obtain ⟨e1, e2, _⟩ := lineOf_n (segOf l p) p.1
  rw [piece_line]
  exact ⟨e2, by rw [e1, seg_len l p h1 h2 h3]⟩
theorem allOf_piece (l : List GTok) (p : Int × Int) (h1 : 0 ≤ p.1) (h2 : p.1 ≤ p.2) (h3 : p.2 ≤ (l.length : Int)) : allOf l (pieceOf l p) = segOf l p := by
  obtain ⟨e1, e2⟩ := piece_first l p h1 h2 h3
  unfold allOf segOf
  rw [e1, e2, show p.1 + (p.2 - p.1) = p.2 by omega]
def wordsF : Nat → List GFile → List GSites_word
  | _, [] => []
  | i, f :: r => linesW (tokens (i : Int) f.text) 0 (linesOf (tokens (i : Int) f.text)) ++ wordsF (i + 1) r
theorem wordsO_eq : ∀ (fs : List GFile) (i : Nat), (∀ f ∈ fs, f.text.length ≤ 2000000) → wordsO i fs = some (wordsF i fs)
  | [], _, _ => rfl
  | f :: r, i, h => by
    have hf := h f (by simp)
    have h1 := tokens_len (i : Int) f.text
    have h2 := linesOf_len (tokens (i : Int) f.text)
    rw [wordsO, tokens_eq _ _ hf, Option.bind_some, lines_eq _ (by omega), Option.bind_some, chkT ⟨by omega, by omega, fun x hx => by
      obtain ⟨p, rfl, a1, a2, a3⟩ := lines_ok _ x hx
      obtain ⟨e1, e2⟩ := piece_first _ p a1 a2 a3
      rw [e1, e2]; omega⟩, wordsO_eq r (i + 1) (fun g hg => h g (by simp [hg]))]
    rfl
theorem words_eq (fs : List GFile) (hl : fs.length ≤ 2000000) (h : ∀ f ∈ fs, f.text.length ≤ 2000000) : words_ fs = some (wordsF 0 fs) := by
  unfold words_; rw [chkT (by omega), wordsO_eq fs 0 h]
/-! ### what a word is -/
def sgn (s : List UInt8) (t : GTok) : Bool := t.kind == 5 && @BEq.beq _ instBEqOfDecidableEq t.text s
def bodyAt (l : List GTok) (i : Nat) : Bool := match l with
  | _ :: t :: _ => !(sgn [40] t) || t.blank || ((l.drop 1).take (i - 1)).any (sgn [41])
  | _ => true
def partOf (x : GLine) (i : Int) : Int :=
  if x.kind = 1 then 1 else if i < 0 then 7 else if x.kind = 8 then (if i = 0 then 2 else if bodyAt x.toks i.toNat = true then 5 else 4) else if x.kind = 9 then 3 else if x.kind = 2 ∨ x.kind = 3 ∨ x.kind = 4 ∨ x.kind = 5 then 6 else 7
def ahead (x : GLine) : Int := x.n - (x.toks.length : Int)
def isAt (l : List GTok) (i : Int) (s : List UInt8) : Bool := if 0 ≤ i then (l[i.toNat]?.map (sgn s)).getD false else false
def glueOf (x : GLine) (i : Int) : Bool := isAt x.toks (i - 1) [35] || isAt x.toks (i - 1) [35, 35] || isAt x.toks (i + 1) [35, 35]
def WordOk (w : GSites_word) : Prop := ∃ (a : Int) (m : Nat), w.line_ = lineOf w.all a ∧ w.at_ = (m : Int) ∧ w.all[m]? = some w.tok ∧ w.all.length ≤ 2000000
theorem line_two (l : List GTok) (a : Int) (h : (lineOf l a).kind = 8) : (lineOf l a).toks = l.drop 2 ∧ (lineOf l a).n = (l.length : Int) ∧ 2 ≤ l.length := by
  unfold lineOf at h ⊢
  match l with
  | [] => simp at h
  | [t] =>
    simp only at h ⊢
    split at h <;> simp at h
  | t :: u :: r =>
    simp only at h ⊢
    split at h
    · rename_i h1
      rw [if_pos h1]
      split at h
      · rename_i h2
        rw [if_pos h2]
        refine ⟨rfl, rfl, by simp⟩
      · simp at h
    · simp at h
theorem line_n (l : List GTok) (a : Int) : (lineOf l a).n = (l.length : Int) ∧ (lineOf l a).toks.length ≤ l.length := ⟨(lineOf_n l a).1, lineOf_toks l a⟩
theorem ssign_eq (t : GTok) (s : List UInt8) : sites_sign t s = some (sgn s t) := by
  unfold sites_sign sgn; simp only [chkB, andB, orB, condAnd, condOr, iteB, neqB, nltB, nleB, m8_9, m8_10, m8_11, m8_12, m8_13, m8_32, m8_34, m8_35, m8_39, m8_40, m8_41, m8_42, m8_43, m8_44, m8_45, m8_46, m8_47, m8_48, m8_60, m8_62, m8_64, m8_65, m8_67, m8_69, m8_80, m8_90, m8_92, m8_95, m8_97, m8_101, m8_112, m8_122, m8, orO_some, andO_some, Option.bind_some, getD_drop]
theorem inBody_eq (w : GSites_word) (m : Nat) (hm : w.at_ = (m : Int)) (h3 : 3 ≤ m) (hl : m < w.all.length) (hb : w.all.length ≤ 2000000) : sites_word_inBody w = some (bodyAt (w.all.drop 2) (m - 2)) := by
  unfold sites_word_inBody
  simp only [ssign_eq, chkB, andB, orB, condAnd, condOr, iteB, neqB, nltB, nleB, m8_9, m8_10, m8_11, m8_12, m8_13, m8_32, m8_34, m8_35, m8_39, m8_40, m8_41, m8_42, m8_43, m8_44, m8_45, m8_46, m8_47, m8_48, m8_60, m8_62, m8_64, m8_65, m8_67, m8_69, m8_80, m8_90, m8_92, m8_95, m8_97, m8_101, m8_112, m8_122, m8, orO_some, andO_some, Option.bind_some, getD_drop]
  have g3 : 3 < w.all.length := by omega
  have x3 : ix w.all 3 = some w.all[3] := ix_of (List.getElem?_eq_getElem g3) rfl
  rw [ltF (by omega), x3]
  simp only [Option.bind_some, cond_false, Bool.false_or, chkB, andB, orB, condAnd, condOr, iteB, neqB, nltB, nleB, m8_9, m8_10, m8_11, m8_12, m8_13, m8_32, m8_34, m8_35, m8_39, m8_40, m8_41, m8_42, m8_43, m8_44, m8_45, m8_46, m8_47, m8_48, m8_60, m8_62, m8_64, m8_65, m8_67, m8_69, m8_80, m8_90, m8_92, m8_95, m8_97, m8_101, m8_112, m8_122, m8, orO_some, andO_some, Option.bind_some, getD_drop]
  have hd : w.all.drop 2 = w.all[2] :: w.all[3] :: w.all.drop 4 := by
    rw [List.drop_eq_getElem_cons (by omega), List.drop_eq_getElem_cons (by omega)]
  have hbody : bodyAt (w.all.drop 2) (m - 2) = (!(sgn [40] w.all[3]) || w.all[3].blank || ((w.all.drop 3).take (m - 3)).any (sgn [41])) := by
    rw [hd]
    simp only [bodyAt, List.drop_succ_cons, List.drop_zero]
    rw [← List.drop_eq_getElem_cons (by omega), show m - 2 - 1 = m - 3 by omega]
  rw [hbody]
  obtain ⟨al, hal⟩ : ∃ al, al = (w.all.drop 3).take (m - 3) := ⟨_, rfl⟩
  have hlen : al.length = m - 3 := by rw [hal, List.length_take, List.length_drop]; omega
  have hal2 : (w.all.drop (3 : Int).toNat).take ((w.at_).toNat - (3 : Int).toNat) = al := by rw [hm, hal]; rfl
  have hloop := loopS_find (f := sites_word_inBody_b2 w) al (sgn [41]) true (by omega) (fun k hk => by
    unfold sites_word_inBody_b2
    simp only [hal2, ssign_eq, chkB, andB, orB, condAnd, condOr, iteB, neqB, nltB, nleB, m8_9, m8_10, m8_11, m8_12, m8_13, m8_32, m8_34, m8_35, m8_39, m8_40, m8_41, m8_42, m8_43, m8_44, m8_45, m8_46, m8_47, m8_48, m8_60, m8_62, m8_64, m8_65, m8_67, m8_69, m8_80, m8_90, m8_92, m8_95, m8_97, m8_101, m8_112, m8_122, m8, orO_some, andO_some, Option.bind_some, getD_drop]
    rw [iteT (ltT (by omega)), ix_at hk, Option.bind_some]
    by_cases hs : sgn [41] al[k] = true
    · rw [iteT hs, iteT hs]
    · rw [iteF (Bool.eq_false_iff.2 hs), iteF (Bool.eq_false_iff.2 hs), pk (by omega)]; rfl) (by
    unfold sites_word_inBody_b2
    simp only [hal2, chkB, andB, orB, condAnd, condOr, iteB, neqB, nltB, nleB, m8_9, m8_10, m8_11, m8_12, m8_13, m8_32, m8_34, m8_35, m8_39, m8_40, m8_41, m8_42, m8_43, m8_44, m8_45, m8_46, m8_47, m8_48, m8_60, m8_62, m8_64, m8_65, m8_67, m8_69, m8_80, m8_90, m8_92, m8_95, m8_97, m8_101, m8_112, m8_122, m8, orO_some, andO_some, Option.bind_some, getD_drop]
    exact iteF (ltF (by omega)))
  by_cases hc : (!(sgn [40] w.all[3]) || w.all[3].blank) = true
  · rw [hc, iteT rfl]; rfl
  · rw [Bool.eq_false_iff.2 hc, iteF rfl, pk (by omega), hloop, Option.bind_some, ← hal, Bool.false_or]
    by_cases ha : al.any (sgn [41]) = true
    · rw [if_pos ha, ha]
    · rw [if_neg ha, Bool.eq_false_iff.2 ha]; rfl
theorem role_eq (w : GSites_word) (hw : WordOk w) : sites_word_role w = some (partOf w.line_ (w.at_ - ahead w.line_)) := by
  obtain ⟨a, m, h1, h2, h3, h4⟩ := hw
  have hm : m < w.all.length := (List.getElem?_eq_some_iff.1 h3).1
  obtain ⟨n1, n2⟩ := line_n w.all a
  rw [← h1] at n1 n2
  have hah : 0 ≤ ahead w.line_ ∧ ahead w.line_ ≤ 2000000 := by unfold ahead; omega
  unfold sites_word_role
  rw [chkT (show I64 (w.line_.n - (w.line_.toks.length : Int)) by omega), chkT (show I64 (w.at_ - (w.line_.n - (w.line_.toks.length : Int))) by omega)]
  have e : w.at_ - (w.line_.n - (w.line_.toks.length : Int)) = w.at_ - ahead w.line_ := rfl
  unfold partOf
  by_cases k1 : w.line_.kind = 1
  · rw [if_pos (by simp [k1]), if_pos k1]
  rw [if_neg (by simp [k1]), if_neg k1]
  by_cases k8 : w.line_.kind = 8
  · rw [if_pos (by simp [k8]), e]
    obtain ⟨t1, t2, t3⟩ := line_two w.all a (by rw [← h1]; exact k8)
    rw [← h1] at t1 t2
    have hal : ahead w.line_ = 2 := by unfold ahead; rw [t1, t2, List.length_drop]; omega
    rw [hal, h2]
    by_cases i0 : (m : Int) - 2 = 0
    · rw [if_pos (by simp [i0]), if_neg (show ¬ ((m : Int) - 2 < 0) by omega), if_pos k8, if_pos i0]
    · rw [if_neg (by simp [i0])]
      by_cases ip : 0 < (m : Int) - 2
      · rw [decide_eq_true ip, inBody_eq w m h2 (by omega) hm h4, if_neg (show ¬ ((m : Int) - 2 < 0) by omega), if_pos k8, if_neg i0, t1, show ((m : Int) - 2).toNat = m - 2 by omega]
        cases bodyAt (w.all.drop 2) (m - 2) <;> rfl
      · rw [decide_eq_false ip, if_pos (show (m : Int) - 2 < 0 by omega)]; rfl
  rw [if_neg (by simp [k8]), if_neg k8, e]
  obtain ⟨i, hi⟩ : ∃ i, i = w.at_ - ahead w.line_ := ⟨_, rfl⟩
  have j2 : sites_word_role_j2 w () = some (if i < 0 then 7 else 6) := by
    unfold sites_word_role_j2 sites_word_role_j1
    rw [e, ← hi]
    by_cases h : 0 ≤ i
    · rw [if_pos (by simpa using h), if_neg (by omega)]
    · rw [if_neg (by simpa using h), if_pos (by omega)]
  rw [← hi]
  by_cases k9 : w.line_.kind = 9
  · rw [if_pos (by simp [k9]), if_pos k9]
    by_cases h : 0 ≤ i
    · rw [if_pos (by simpa using h), if_neg (by omega)]
    · rw [if_neg (by simpa using h), if_pos (by omega)]; rfl
  rw [if_neg (by simp [k9]), if_neg k9]
  by_cases k2 : w.line_.kind = 2
  · rw [if_pos (by simp [k2]), decide_eq_true k2]
    unfold sites_word_role_j5
    rw [if_pos rfl, j2, if_pos (show w.line_.kind = 2 ∨ w.line_.kind = 3 ∨ w.line_.kind = 4 ∨ w.line_.kind = 5 from .inl k2)]
  rw [if_neg (by simp [k2])]
  unfold sites_word_role_j5
  by_cases k5 : w.line_.kind = 5
  · rw [if_pos (by simp [k5]), j2, if_pos (show w.line_.kind = 2 ∨ w.line_.kind = 3 ∨ w.line_.kind = 4 ∨ w.line_.kind = 5 from .inr (.inr (.inr k5)))]
  rw [if_neg (by simp [k5])]
  unfold sites_word_role_j4 sites_word_role_j6
  by_cases k3 : w.line_.kind = 3
  · rw [if_pos (by simp [k3]), if_pos (by simp [k3]), j2, if_pos (show w.line_.kind = 2 ∨ w.line_.kind = 3 ∨ w.line_.kind = 4 ∨ w.line_.kind = 5 from .inr (.inl k3))]
  rw [if_neg (by simp [k3])]
  by_cases k4 : w.line_.kind = 4
  · rw [if_pos (by simp [k4]), j2, if_pos (show w.line_.kind = 2 ∨ w.line_.kind = 3 ∨ w.line_.kind = 4 ∨ w.line_.kind = 5 from .inr (.inr (.inl k4)))]
  rw [if_neg (by simp [k4]), if_neg (show ¬ (w.line_.kind = 2 ∨ w.line_.kind = 3 ∨ w.line_.kind = 4 ∨ w.line_.kind = 5) by simp [k2, k3, k4, k5])]
  unfold sites_word_role_j3 sites_word_role_j1
  split <;> rfl
end Go.Sh
