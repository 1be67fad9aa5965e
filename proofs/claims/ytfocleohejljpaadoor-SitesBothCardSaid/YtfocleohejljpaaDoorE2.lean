/-
  Where names are written: by the program and by the document. No program in sight.
-/
import Derived.Test.YtfocleohejljpaaDoorE1
set_option linter.unusedVariables false
set_option linter.unusedSimpArgs false
namespace Go.Sh
open Go
theorem wordsL_mem (x : GLine) (n : Int) (all : List GTok) : ∀ (rest : List GTok) (k : Nat), all.drop k = rest → ∀ w ∈ wordsL x n all k rest, ∃ (m : Nat) (t : GTok), all[m]? = some t ∧ w = ⟨t, x, n, (m : Int), all⟩ ∧ t.kind = 1
  | [], k, _ => fun w hw => by cases hw
  | t :: r, k, h => by
    have h1 : all[k]? = some t := by
      have : (all.drop k)[0]? = some t := by rw [h]; rfl
      simpa using this
    have h2 : all.drop (k + 1) = r := by
      have : (all.drop k).drop 1 = r := by rw [h]; rfl
      rw [← this, List.drop_drop]
    intro w hw
    rw [wordsL] at hw
    by_cases hk : t.kind = 1
    · rw [if_pos hk] at hw
      rcases List.mem_cons.1 hw with rfl | hw
      · exact ⟨k, t, h1, rfl, hk⟩
      · exact wordsL_mem x n all r (k + 1) h2 w hw
    · rw [if_neg hk] at hw
      exact wordsL_mem x n all r (k + 1) h2 w hw
theorem wordsL_len (x : GLine) (n : Int) (all : List GTok) : ∀ (rest : List GTok) (k : Nat), (wordsL x n all k rest).length ≤ rest.length
  | [], k => Nat.le_refl _
  | t :: r, k => by
    have := wordsL_len x n all r (k + 1)
    rw [wordsL]; split <;> simp only [List.length_cons] <;> omega
theorem linesW_len (l : List GTok) : ∀ (xs : List GLine) (n : Nat), (linesW l n xs).length ≤ xs.length * l.length
  | [], _ => by simp [linesW]
  | x :: r, n => by
    have h1 := linesW_len l r (n + 1)
    have h2 := wordsL_len x (n : Int) (allOf l x) (allOf l x) 0
    have h3 : (allOf l x).length ≤ l.length := by unfold allOf; rw [List.length_take, List.length_drop]; omega
    rw [linesW, List.length_append, List.length_cons, Nat.succ_mul]; omega
theorem wordsF_len : ∀ (fs : List GFile) (i : Nat), (∀ f ∈ fs, f.text.length ≤ 600) → (wordsF i fs).length ≤ fs.length * 360600
  | [], _, _ => by simp [wordsF]
  | f :: r, i, h => by
    have h0 := h f (by simp)
    have h1 := wordsF_len r (i + 1) (fun g hg => h g (by simp [hg]))
    have h2 := tokens_len (i : Int) f.text
    have h3 := linesOf_len (tokens (i : Int) f.text)
    have h4 := linesW_len (tokens (i : Int) f.text) (linesOf (tokens (i : Int) f.text)) 0
    have h5 : (linesOf (tokens (i : Int) f.text)).length * (tokens (i : Int) f.text).length ≤ 601 * 600 := Nat.mul_le_mul (by omega) (by omega)
    rw [wordsF, List.length_append, List.length_cons, Nat.succ_mul]; omega
theorem linesW_ok (l : List GTok) (hl : l.length ≤ 2000000) : ∀ (xs : List GLine) (n : Nat), (∀ x ∈ xs, x ∈ linesOf l) → ∀ w ∈ linesW l n xs, WordOk w
  | [], _, _ => fun w hw => by cases hw
  | x :: r, n, h => by
    intro w hw
    rw [linesW] at hw
    rcases List.mem_append.1 hw with hw | hw
    · obtain ⟨m, t, h1, rfl, h2⟩ := wordsL_mem x _ _ _ 0 (by rw [List.drop_zero]) w hw
      obtain ⟨p, rfl, a1, a2, a3⟩ := lines_ok l x (h x (by simp))
      have e := allOf_piece l p a1 a2 a3
      refine ⟨p.1, m, ?_, rfl, h1, ?_⟩
      · simp only [e]; rfl
      · simp only [e]; unfold segOf; rw [List.length_take, List.length_drop]; omega
    · exact linesW_ok l hl r (n + 1) (fun y hy => h y (by simp [hy])) w hw
theorem wordsF_ok : ∀ (fs : List GFile) (i : Nat), (∀ f ∈ fs, f.text.length ≤ 2000000) → ∀ w ∈ wordsF i fs, WordOk w
  | [], _, _ => fun w hw => by cases hw
  | f :: r, i, h => by
    intro w hw
    rw [wordsF] at hw
    have h0 := h f (by simp)
    have h2 := tokens_len (i : Int) f.text
    rcases List.mem_append.1 hw with hw | hw
    · exact linesW_ok _ (by omega) _ 0 (fun x hx => hx) w hw
    · exact wordsF_ok r (i + 1) (fun g hg => h g (by simp [hg])) w hw
def siteF (name : List UInt8) (w : GSites_word) : Option GSite := if w.tok.text = name then some ⟨w.tok.file_, w.tok.from_, w.tok.to, w.number, partOf w.line_ (w.at_ - ahead w.line_)⟩ else none
def gluF (name : List UInt8) (w : GSites_word) : Bool := @BEq.beq _ instBEqOfDecidableEq w.tok.text name && partOf w.line_ (w.at_ - ahead w.line_) == 5 && glueOf w.line_ (w.at_ - ahead w.line_)
def findF (name : List UInt8) (fs : List GFile) : List GSite := (wordsF 0 fs).filterMap (siteF name)
theorem find_eq (fs : List GFile) (name : List UInt8) (hl : fs.length ≤ 2000000) (h : ∀ f ∈ fs, f.text.length ≤ 2000000) (hw : (wordsF 0 fs).length ≤ 3000000) : sites_Find fs name = some (findF name fs) := by
  unfold sites_Find findF
  rw [words_eq fs hl h, Option.bind_some]
  have hok := wordsF_ok fs 0 h
  generalize wordsF 0 fs = ws at *
  obtain ⟨s, h1, rfl⟩ := foldS_rel (f := sites_Find_b1 name) (l := ws) (fun k s => s = (ws.take k).filterMap (siteF name)) (s0 := ([] : List GSite)) rfl (by
    rintro k s x hx rfl
    have hlt := (List.getElem?_eq_some_iff.1 hx).1
    have ht : ws.take (k + 1) = ws.take k ++ [x] := by rw [List.take_add_one, hx]; rfl
    have hxm := hok x (List.mem_of_getElem? hx)
    unfold sites_Find_b1
    by_cases hn : x.tok.text = name
    · rw [if_pos (by simp [hn]), role_eq x hxm, Option.bind_some]
      have hlen : ((ws.take k).filterMap (siteF name)).length ≤ k := Nat.le_trans (List.length_filterMap_le _ _) (by rw [List.length_take]; omega)
      rw [chkT (by omega)]
      refine ⟨_, rfl, ?_⟩
      rw [ht, List.filterMap_append]
      have : siteF name x = some ⟨x.tok.file_, x.tok.from_, x.tok.to, x.number, partOf x.line_ (x.at_ - ahead x.line_)⟩ := if_pos hn
      simp [List.filterMap_cons, this]
    · rw [if_neg (by simp [hn])]
      refine ⟨_, rfl, ?_⟩
      rw [ht, List.filterMap_append]
      have : siteF name x = none := if_neg hn
      simp [List.filterMap_cons, this])
  rw [h1, Option.bind_some, List.take_length]; rfl
theorem foldS_any {σ α : Type} {f : σ → α → Option (Step σ Bool)} (s0 : σ) (p : α → Bool) : ∀ (l : List α), (∀ x ∈ l, f s0 x = some (if p x = true then .done true else .next s0)) → foldS f l s0 = some (if l.any p = true then .inr true else .inl s0)
  | [], _ => rfl
  | x :: l, h => by
    have hx := h x (by simp)
    have ih := foldS_any s0 p l (fun y hy => h y (by simp [hy]))
    by_cases hp : p x = true
    · rw [if_pos hp] at hx
      simp only [foldS, hx, List.any_cons, hp, Bool.true_or, if_true]
    · rw [if_neg hp] at hx
      simp only [foldS, hx, List.any_cons, Bool.eq_false_iff.2 hp, Bool.false_or]
      exact ih
theorem glued_word (w : GSites_word) (hw : WordOk w) (h5 : partOf w.line_ (w.at_ - ahead w.line_) = 5) : ∃ (m : Nat) (t : GTok), w.at_ = (m : Int) ∧ 3 ≤ m ∧ m < w.all.length ∧ w.all.length ≤ 2000000 ∧ w.all[m - 1]? = some t ∧ glueOf w.line_ (w.at_ - ahead w.line_) = (sgn [35] t || sgn [35, 35] t || (w.all[m + 1]?.map (sgn [35, 35])).getD false) := by
  obtain ⟨a, m, h1, h2, h3, h4⟩ := hw
  have hm : m < w.all.length := (List.getElem?_eq_some_iff.1 h3).1
  have k8 : w.line_.kind = 8 := by
    unfold partOf at h5
    by_cases k1 : w.line_.kind = 1
    · rw [if_pos k1] at h5; simp at h5
    rw [if_neg k1] at h5
    by_cases i0 : w.at_ - ahead w.line_ < 0
    · rw [if_pos i0] at h5; simp at h5
    rw [if_neg i0] at h5
    by_cases k8 : w.line_.kind = 8
    · exact k8
    rw [if_neg k8] at h5
    split at h5
    · simp at h5
    · split at h5 <;> simp at h5
  obtain ⟨t1, t2, t3⟩ := line_two w.all a (by rw [← h1]; exact k8)
  rw [← h1] at t1 t2
  have hal : ahead w.line_ = 2 := by unfold ahead; rw [t1, t2, List.length_drop]; omega
  rw [hal, h2] at h5
  have hpos : 3 ≤ m := by
    unfold partOf at h5
    rw [if_neg (by omega)] at h5
    by_cases i0 : (m : Int) - 2 < 0
    · rw [if_pos i0] at h5; simp at h5
    rw [if_neg i0, if_pos k8] at h5
    by_cases i1 : (m : Int) - 2 = 0
    · rw [if_pos i1] at h5; simp at h5
    · omega
  refine ⟨m, w.all[m - 1], h2, hpos, hm, h4, List.getElem?_eq_getElem (by omega), ?_⟩
  rw [hal, h2]
  have g1 : ∀ s, isAt w.line_.toks ((m : Int) - 2 - 1) s = sgn s w.all[m - 1] := by
    intro s
    unfold isAt
    rw [if_pos (by omega), t1, List.getElem?_drop, show 2 + ((m : Int) - 2 - 1).toNat = m - 1 by omega, List.getElem?_eq_getElem (by omega)]; rfl
  have g2 : isAt w.line_.toks ((m : Int) - 2 + 1) [35, 35] = (w.all[m + 1]?.map (sgn [35, 35])).getD false := by
    unfold isAt
    rw [if_pos (by omega), t1, List.getElem?_drop, show 2 + ((m : Int) - 2 + 1).toNat = m + 1 by omega]
  unfold glueOf
  rw [g1, g1, g2]
theorem glued_eq (fs : List GFile) (name : List UInt8) (hl : fs.length ≤ 2000000) (h : ∀ f ∈ fs, f.text.length ≤ 2000000) : sites_Glued fs name = some ((wordsF 0 fs).any (gluF name)) := by
  unfold sites_Glued
  rw [words_eq fs hl h, Option.bind_some]
  have hok := wordsF_ok fs 0 h
  generalize wordsF 0 fs = ws at *
  rw [foldS_any false (gluF name) ws (fun x hx => by
    have hxm := hok x hx
    unfold sites_Glued_b1
    simp only [role_eq x hxm, ssign_eq, chkB, andB, orB, condAnd, condOr, iteB, neqB, nltB, nleB, m8_9, m8_10, m8_11, m8_12, m8_13, m8_32, m8_34, m8_35, m8_39, m8_40, m8_41, m8_42, m8_43, m8_44, m8_45, m8_46, m8_47, m8_48, m8_60, m8_62, m8_64, m8_65, m8_67, m8_69, m8_80, m8_90, m8_92, m8_95, m8_97, m8_101, m8_112, m8_122, m8, orO_some, andO_some, Option.bind_some, getD_drop]
    by_cases hn : x.tok.text = name
    · by_cases h5 : partOf x.line_ (x.at_ - ahead x.line_) = 5
      · obtain ⟨m, t, e1, e2, e3, e4, e5, e6⟩ := glued_word x hxm h5
        have hg : gluF name x = (sgn [35] t || sgn [35, 35] t || (x.all[m + 1]?.map (sgn [35, 35])).getD false) := by
          unfold gluF; rw [eqT hn, eqT h5, e6]; rfl
        rw [iteF (by rw [eqT hn, eqT h5]; rfl), e1, pk (by omega), ix_of e5 (by omega), Option.bind_some, hg]
        by_cases hc : (sgn [35] t || sgn [35, 35] t) = true
        · rw [hc, iteT rfl]
          simp only [Option.bind_some, Bool.true_or]
          rw [iteT rfl]; rfl
        · rw [Bool.eq_false_iff.2 hc, iteF rfl, pk (by omega)]
          by_cases hlt : m + 1 < x.all.length
          · have e7 : x.all[m + 1]? = some x.all[m + 1] := List.getElem?_eq_getElem hlt
            rw [iteT (ltT (by omega)), pk (by omega), show ((m : Int) + 1) = ((m + 1 : Nat) : Int) from rfl, ix_of e7 rfl, e7]
            simp only [Option.bind_some, Bool.false_or, Option.map_some, Option.getD_some]
            by_cases hs : sgn [35, 35] x.all[m + 1] = true
            · rw [hs, iteT rfl]; rfl
            · rw [Bool.eq_false_iff.2 hs, iteF rfl]; rfl
          · have e7 : x.all[m + 1]? = none := List.getElem?_eq_none (by omega)
            rw [iteF (ltF (by omega)), e7]
            simp only [Option.bind_some, Bool.false_or, Option.map_none, Option.getD_none]
            rw [iteF rfl]; rfl
      · have hg : gluF name x = false := by unfold gluF; rw [eqF h5]; simp
        rw [iteT (by rw [eqF h5]; simp), hg]; rfl
    · have hg : gluF name x = false := by unfold gluF; rw [eqF hn]; simp
      rw [iteT (by rw [eqF hn]; rfl), hg]; rfl), Option.bind_some]
  by_cases ha : ws.any (gluF name) = true
  · rw [if_pos ha, ha]
  · rw [if_neg ha, Bool.eq_false_iff.2 ha]; rfl
/-! ### by the document -/
theorem is19_eq (l : List GTok) (i : Int) (s : List UInt8) : emendref19_is l i s = some (isAt l i s) := by
  unfold emendref19_is isAt
  simp only [chkB, andB, orB, condAnd, condOr, iteB, neqB, nltB, nleB, m8_9, m8_10, m8_11, m8_12, m8_13, m8_32, m8_34, m8_35, m8_39, m8_40, m8_41, m8_42, m8_43, m8_44, m8_45, m8_46, m8_47, m8_48, m8_60, m8_62, m8_64, m8_65, m8_67, m8_69, m8_80, m8_90, m8_92, m8_95, m8_97, m8_101, m8_112, m8_122, m8, orO_some, andO_some, Option.bind_some, getD_drop]
  by_cases h0 : 0 ≤ i
  · rw [if_pos h0, leT h0]
    by_cases hl : i < (l.length : Int)
    · have e : l[i.toNat]? = some l[i.toNat] := List.getElem?_eq_getElem (by omega)
      rw [ltT hl, ix_of e (by omega), e]
      simp only [Option.bind_some, cond_true, Bool.true_and, Option.map_some, Option.getD_some, sgn, chkB, andB, orB, condAnd, condOr, iteB, neqB, nltB, nleB, m8_9, m8_10, m8_11, m8_12, m8_13, m8_32, m8_34, m8_35, m8_39, m8_40, m8_41, m8_42, m8_43, m8_44, m8_45, m8_46, m8_47, m8_48, m8_60, m8_62, m8_64, m8_65, m8_67, m8_69, m8_80, m8_90, m8_92, m8_95, m8_97, m8_101, m8_112, m8_122, m8, orO_some, andO_some, Option.bind_some, getD_drop]
    · rw [ltF (by omega), List.getElem?_eq_none (by omega)]; rfl
  · rw [if_neg h0, leF (by omega)]; rfl
theorem shut_loop (x : GLine) (i : Nat) (hi : i ≤ 2000000) (h1 : 1 ≤ i) : loopS (emendref19_part_b3 x (i : Int)) 1 = some (if ((x.toks.drop 1).take (i - 1)).any (sgn [41]) = true then .inr 5 else .inl ()) := by
  have key := loopS_of (f := emendref19_part_b3 x (i : Int)) (fun s => ∃ k : Nat, s = (k : Int) ∧ 1 ≤ k ∧ k ≤ i) (fun s => i - s.toNat) (fun s => (if ((x.toks.drop s.toNat).take (i - s.toNat)).any (sgn [41]) = true then .inr 5 else .inl () : Sum Unit Int)) (s := (1 : Int)) ⟨1, rfl, Nat.le_refl _, h1⟩ (by omega) (by
    rintro s ⟨k, rfl, hk1, hk2⟩
    unfold emendref19_part_b3
    simp only [is19_eq, chkB, andB, orB, condAnd, condOr, iteB, neqB, nltB, nleB, m8_9, m8_10, m8_11, m8_12, m8_13, m8_32, m8_34, m8_35, m8_39, m8_40, m8_41, m8_42, m8_43, m8_44, m8_45, m8_46, m8_47, m8_48, m8_60, m8_62, m8_64, m8_65, m8_67, m8_69, m8_80, m8_90, m8_92, m8_95, m8_97, m8_101, m8_112, m8_122, m8, orO_some, andO_some, Option.bind_some, getD_drop, Int.toNat_natCast]
    by_cases hlt : k < i
    · rw [iteT (ltT (by omega))]
      have hat : isAt x.toks (k : Int) [41] = (x.toks[k]?.map (sgn [41])).getD false := by
        unfold isAt; rw [if_pos (by omega), Int.toNat_natCast]
      rw [hat]
      by_cases hkl : k < x.toks.length
      · have hd : (x.toks.drop k).take (i - k) = x.toks[k] :: (x.toks.drop (k + 1)).take (i - (k + 1)) := by
          rw [List.drop_eq_getElem_cons hkl, show i - k = (i - (k + 1)) + 1 by omega, List.take_succ_cons]
        rw [List.getElem?_eq_getElem hkl, hd, List.any_cons]
        simp only [Option.map_some, Option.getD_some]
        by_cases hs : sgn [41] x.toks[k] = true
        · right; rw [hs, iteT rfl]; rfl
        · left
          refine ⟨((k + 1 : Nat) : Int), ?_, ⟨k + 1, rfl, by omega, by omega⟩, by omega, ?_⟩
          · rw [Bool.eq_false_iff.2 hs, iteF rfl, pk (by omega)]; rfl
          · rw [Bool.eq_false_iff.2 hs, Bool.false_or, Int.toNat_natCast]
      · left
        refine ⟨((k + 1 : Nat) : Int), ?_, ⟨k + 1, rfl, by omega, by omega⟩, by omega, ?_⟩
        · rw [List.getElem?_eq_none (by omega), iteF (b := (Option.map (sgn [41]) none).getD false) rfl, pk (by omega)]; rfl
        · rw [Int.toNat_natCast, List.drop_of_length_le (by omega), List.drop_of_length_le (by omega)]
          simp
    · right
      rw [iteF (ltF (by omega)), show i - k = 0 by omega]; simp)
  rw [key]; rfl
theorem part_eq (x : GLine) (i : Int) (hi : i ≤ 2000000) : emendref19_part x i = some (partOf x i) := by
  unfold emendref19_part partOf
  by_cases k1 : x.kind = 1
  · rw [if_pos (by simp [k1]), if_pos k1]
  rw [if_neg (by simp [k1]), if_neg k1]
  by_cases i0 : i < 0
  · rw [if_pos (by simp [i0]), if_pos i0]
  rw [if_neg (by simp [i0]), if_neg i0]
  by_cases k8 : x.kind = 8
  · rw [if_pos (by simp [k8]), if_pos k8]
    by_cases i1 : i = 0
    · rw [if_pos (by simp [i1]), if_pos i1]
    rw [if_neg (by simp [i1]), if_neg i1, is19_eq, Option.bind_some]
    obtain ⟨n, rfl⟩ : ∃ n : Nat, i = (n : Int) := ⟨i.toNat, by omega⟩
    rw [shut_loop x n (by omega) (by omega), Int.toNat_natCast]
    simp only [chkB, andB, orB, condAnd, condOr, iteB, neqB, nltB, nleB, m8_9, m8_10, m8_11, m8_12, m8_13, m8_32, m8_34, m8_35, m8_39, m8_40, m8_41, m8_42, m8_43, m8_44, m8_45, m8_46, m8_47, m8_48, m8_60, m8_62, m8_64, m8_65, m8_67, m8_69, m8_80, m8_90, m8_92, m8_95, m8_97, m8_101, m8_112, m8_122, m8, orO_some, andO_some, Option.bind_some, getD_drop]
    match ht : x.toks with
    | [] => rfl
    | [t] => rfl
    | t :: u :: r =>
      have e1 : isAt (t :: u :: r) 1 [40] = sgn [40] u := rfl
      have x1 : ix (t :: u :: r) 1 = some u := rfl
      rw [e1, x1]
      simp only [Option.bind_some, condOr, chkB, andB, orB, condAnd, condOr, iteB, neqB, nltB, nleB, m8_9, m8_10, m8_11, m8_12, m8_13, m8_32, m8_34, m8_35, m8_39, m8_40, m8_41, m8_42, m8_43, m8_44, m8_45, m8_46, m8_47, m8_48, m8_60, m8_62, m8_64, m8_65, m8_67, m8_69, m8_80, m8_90, m8_92, m8_95, m8_97, m8_101, m8_112, m8_122, m8, orO_some, andO_some, Option.bind_some, getD_drop, bodyAt]
      by_cases hc : (!sgn [40] u || u.blank) = true
      · rw [hc, iteT rfl]; rfl
      · rw [Bool.eq_false_iff.2 hc, iteF rfl, Bool.false_or]
        cases (((t :: u :: r).drop 1).take (n - 1)).any (sgn [41]) <;> rfl
  rw [if_neg (by simp [k8]), if_neg k8]
  by_cases k9 : x.kind = 9
  · rw [if_pos (by simp [k9]), if_pos k9]
  rw [if_neg (by simp [k9]), if_neg k9]
  unfold emendref19_part_j4
  by_cases k2 : x.kind = 2
  · rw [if_pos (by simp [k2]), if_pos (by simp [k2]), if_pos (show x.kind = 2 ∨ x.kind = 3 ∨ x.kind = 4 ∨ x.kind = 5 from .inl k2)]
  rw [if_neg (by simp [k2])]
  by_cases k5 : x.kind = 5
  · rw [if_pos (by simp [k5]), if_pos (by simp [k5]), if_pos (show x.kind = 2 ∨ x.kind = 3 ∨ x.kind = 4 ∨ x.kind = 5 from .inr (.inr (.inr k5)))]
  rw [if_neg (by simp [k5])]
  by_cases k3 : x.kind = 3
  · rw [if_pos (by simp [k3]), if_pos (by simp [k3]), if_pos (show x.kind = 2 ∨ x.kind = 3 ∨ x.kind = 4 ∨ x.kind = 5 from .inr (.inl k3))]
  rw [if_neg (by simp [k3])]
  by_cases k4 : x.kind = 4
  · rw [if_pos (by simp [k4]), if_pos (show x.kind = 2 ∨ x.kind = 3 ∨ x.kind = 4 ∨ x.kind = 5 from .inr (.inr (.inl k4)))]
  rw [if_neg (by simp [k4]), if_neg (show ¬ (x.kind = 2 ∨ x.kind = 3 ∨ x.kind = 4 ∨ x.kind = 5) by simp [k2, k3, k4, k5])]; rfl
end Go.Sh
