/-
  SitesFind, SitesRight, SitesSpelling, SitesBoth in plain words. No program in sight.
-/
import Derived.Test.YtfocleohejljpaaDoorE2
set_option linter.unusedVariables false
set_option linter.unusedSimpArgs false
namespace Go.Sh
open Go
theorem seg_get (l : List GTok) (p : Int × Int) (h1 : 0 ≤ p.1) (h2 : p.1 ≤ p.2) (h3 : p.2 ≤ (l.length : Int)) (k : Nat) (hk : k < (segOf l p).length) : l[p.1.toNat + k]? = some (segOf l p)[k] := by
  have hl := seg_len l p h1 h2 h3
  have : (segOf l p)[k]? = some (segOf l p)[k] := List.getElem?_eq_getElem hk
  rw [← this]
  conv => rhs; unfold segOf
  rw [List.getElem?_take, if_pos (by omega), List.getElem?_drop]
theorem glue_expr (x : GLine) (i r : Int) (h1 : -2000000 ≤ i) (h2 : i ≤ 2000000) : (andO (decide (r = 5)) (chk (I64 (i - 1)) ((emendref19_is x.toks (i - 1) [35]).bind fun r_4 => (orO r_4 (chk (I64 (i - 1)) ((emendref19_is x.toks (i - 1) [35, 35]).bind fun r_5 => some r_5))).bind fun b_3 => (orO b_3 (chk (I64 (i + 1)) ((emendref19_is x.toks (i + 1) [35, 35]).bind fun r_6 => some r_6))).bind fun b_4 => some b_4))) = some (r == 5 && glueOf x i) := by
  rw [chkT (show I64 (i - 1) by omega), chkT (show I64 (i - 1) by omega)]
  simp only [is19_eq, Option.bind_some]
  unfold glueOf
  by_cases hr : r = 5
  · rw [decide_eq_true hr, eqT hr]
    cases h3 : isAt x.toks (i - 1) [35]
    · cases h4 : isAt x.toks (i - 1) [35, 35]
      · simp only [andO, orO, Bool.false_eq_true, if_false, if_true, Option.bind_some, Bool.or_self, Bool.true_and, Bool.false_or]
        rw [chkT (show I64 (i + 1) by omega)]; rfl
      · rfl
    · rfl
  · rw [decide_eq_false hr, eqF hr]; rfl
theorem line_loop (name : List UInt8) (f : Int) (l : List GTok) (xs : List GLine) (n : Nat) (p : Int × Int) (hn : xs[n]? = some (pieceOf l p)) (h1 : 0 ≤ p.1) (h2 : p.1 ≤ p.2) (h3 : p.2 ≤ (l.length : Int)) (hl : l.length ≤ 2000000) (hf : ∀ t ∈ l, t.file_ = f) (g : Bool) (out : List GSite)
    (hb : (out ++ (wordsL (pieceOf l p) (n : Int) (segOf l p) 0 (segOf l p)).filterMap (siteF name)).length ≤ 2000000000) :
    loopS (emendref19_Find_b6 name f l xs (n : Int) (pieceOf l p) (pieceOf l p)) (g, 0, out) = some (g || (wordsL (pieceOf l p) (n : Int) (segOf l p) 0 (segOf l p)).any (gluF name), out ++ (wordsL (pieceOf l p) (n : Int) (segOf l p) 0 (segOf l p)).filterMap (siteF name)) := by
  obtain ⟨f1, f2⟩ := piece_first l p h1 h2 h3
  have hsl := seg_len l p h1 h2 h3
  have hgetl := seg_get l p h1 h2 h3
  have hmem : ∀ t ∈ segOf l p, t ∈ l := fun t ht => List.mem_of_mem_drop (List.mem_of_mem_take ht)
  obtain ⟨n1, n2⟩ := line_n (segOf l p) p.1
  rw [← piece_line] at n1 n2
  obtain ⟨x, hx⟩ : ∃ x, x = pieceOf l p := ⟨_, rfl⟩
  obtain ⟨al, hal⟩ : ∃ al, al = segOf l p := ⟨_, rfl⟩
  rw [← hx] at hn hb f1 f2 n1 n2 ⊢
  rw [← hal] at hb hsl hgetl hmem n1 n2 ⊢
  have hxn : ix xs (n : Int) = some x := ix_of hn rfl
  refine loopS_of (f := emendref19_Find_b6 name f l xs (n : Int) x x) (fun s => ∃ k : Nat, s.2.1 = (k : Int) ∧ k ≤ al.length ∧ (s.2.2 ++ (wordsL x (n : Int) al k (al.drop k)).filterMap (siteF name)).length ≤ 2000000000) (fun s => al.length - s.2.1.toNat)
    (fun s => (s.1 || (wordsL x (n : Int) al s.2.1.toNat (al.drop s.2.1.toNat)).any (gluF name), s.2.2 ++ (wordsL x (n : Int) al s.2.1.toNat (al.drop s.2.1.toNat)).filterMap (siteF name))) (s := (g, (0 : Int), out)) ⟨0, rfl, Nat.zero_le _, hb⟩ (by simp only; omega) ?_
  rintro ⟨gl, ki, o⟩ ⟨k, e, hk, hbd⟩
  simp only at e hbd; subst e
  unfold emendref19_Find_b6
  simp only [hxn, Option.bind_some, Int.toNat_natCast]
  by_cases hlt : k < al.length
  · left
    have hd : al.drop k = al[k] :: al.drop (k + 1) := List.drop_eq_getElem_cons hlt
    rw [hd, wordsL] at hbd ⊢
    rw [if_pos (decide_eq_true (show (k : Int) < x.n by omega)), chkT (show I64 (x.first + (k : Int)) by omega), ix_of (hgetl k hlt) (by rw [f1]; omega)]
    simp only [Option.bind_some]
    have hfk := hf _ (hmem _ (List.getElem_mem hlt))
    obtain ⟨t, ht⟩ : ∃ t, t = al[k] := ⟨_, rfl⟩
    rw [← ht] at hbd hfk ⊢
    by_cases hk1 : t.kind = 1
    · rw [if_pos hk1] at hbd ⊢
      by_cases hnm : t.text = name
      · have hsf : siteF name ⟨t, x, (n : Int), (k : Int), al⟩ = some ⟨f, t.from_, t.to, (n : Int), partOf x ((k : Int) - (x.n - (x.toks.length : Int)))⟩ := by
          unfold siteF; simp only; rw [if_pos hnm, hfk]; rfl
        have hgf : gluF name ⟨t, x, (n : Int), (k : Int), al⟩ = (partOf x ((k : Int) - (x.n - (x.toks.length : Int))) == 5 && glueOf x ((k : Int) - (x.n - (x.toks.length : Int)))) := by
          unfold gluF; simp only; rw [eqT hnm]; rfl
        rw [List.filterMap_cons_some hsf] at hbd
        simp only [List.length_append, List.length_cons] at hbd
        rw [show orO (!decide (t.kind = 1)) (some (!decide (t.text = name))) = some false by rw [decide_eq_true hk1, decide_eq_true hnm]; rfl]
        rw [Option.bind_some, if_neg (by simp), chkT (show I64 ((k : Int) - (x.n - (x.toks.length : Int))) by omega), part_eq x _ (by omega), Option.bind_some, chkT (by omega), chkT (show I64 ((k : Int) - (x.n - (x.toks.length : Int))) by omega), glue_expr x _ _ (by omega) (by omega), Option.bind_some, ← hgf]
        refine ⟨(gl || gluF name ⟨t, x, (n : Int), (k : Int), al⟩, ((k + 1 : Nat) : Int), o ++ [⟨f, t.from_, t.to, (n : Int), partOf x ((k : Int) - (x.n - (x.toks.length : Int)))⟩]), ?_, ⟨k + 1, rfl, by omega, by simp only [List.length_append, List.length_cons, List.length_nil]; omega⟩, by simp only; omega, ?_⟩
        · cases gluF name ⟨t, x, (n : Int), (k : Int), al⟩
          · rw [if_neg (by simp), Bool.or_false, chkT (show I64 ((k : Int) + 1) by omega)]; rfl
          · rw [if_pos rfl, Bool.or_true, chkT (show I64 ((k : Int) + 1) by omega)]; rfl
        · simp only [Int.toNat_natCast, List.filterMap_cons_some hsf, List.any_cons, Bool.or_assoc, List.append_assoc, List.cons_append, List.nil_append]
      · have hsf : siteF name ⟨t, x, (n : Int), (k : Int), al⟩ = none := by unfold siteF; simp only; rw [if_neg hnm]
        have hgf : gluF name ⟨t, x, (n : Int), (k : Int), al⟩ = false := by unfold gluF; simp only; rw [eqF hnm]; rfl
        rw [List.filterMap_cons_none hsf] at hbd
        rw [show orO (!decide (t.kind = 1)) (some (!decide (t.text = name))) = some true by rw [decide_eq_true hk1, decide_eq_false hnm]; rfl]
        rw [Option.bind_some, if_pos rfl, chkT (show I64 ((k : Int) + 1) by omega)]
        refine ⟨(gl, ((k + 1 : Nat) : Int), o), rfl, ⟨k + 1, rfl, by omega, hbd⟩, by simp only; omega, ?_⟩
        simp only [Int.toNat_natCast, List.filterMap_cons_none hsf, List.any_cons, hgf, Bool.false_or]
    · rw [if_neg hk1] at hbd ⊢
      rw [show orO (!decide (t.kind = 1)) (some (!decide (t.text = name))) = some true by rw [decide_eq_false hk1]; rfl]
      rw [Option.bind_some, if_pos rfl, chkT (show I64 ((k : Int) + 1) by omega)]
      refine ⟨(gl, ((k + 1 : Nat) : Int), o), rfl, ⟨k + 1, rfl, by omega, hbd⟩, by simp only; omega, ?_⟩
      simp only [Int.toNat_natCast]
  · right
    rw [if_neg (by simp; omega), List.drop_of_length_le (by omega)]
    simp [wordsL]
theorem file_loop (name : List UInt8) (f : Int) (l : List GTok) (hl : l.length ≤ 2000000) (hf : ∀ t ∈ l, t.file_ = f) (g : Bool) (out : List GSite)
    (hb : (out ++ (linesW l 0 (linesOf l)).filterMap (siteF name)).length ≤ 2000000000) :
    loopS (emendref19_Find_b4 name f l (linesOf l)) (g, 0, out) = some (g || (linesW l 0 (linesOf l)).any (gluF name), out ++ (linesW l 0 (linesOf l)).filterMap (siteF name)) := by
  have hok := lines_ok l
  have hxl := linesOf_len l
  generalize linesOf l = xs at *
  refine loopS_of (f := emendref19_Find_b4 name f l xs) (fun s => ∃ k : Nat, s.2.1 = (k : Int) ∧ k ≤ xs.length ∧ (s.2.2 ++ (linesW l k (xs.drop k)).filterMap (siteF name)).length ≤ 2000000000) (fun s => xs.length - s.2.1.toNat)
    (fun s => (s.1 || (linesW l s.2.1.toNat (xs.drop s.2.1.toNat)).any (gluF name), s.2.2 ++ (linesW l s.2.1.toNat (xs.drop s.2.1.toNat)).filterMap (siteF name))) (s := (g, (0 : Int), out)) ⟨0, rfl, Nat.zero_le _, hb⟩ (by simp only; omega) ?_
  rintro ⟨gl, ki, o⟩ ⟨k, e, hk, hbd⟩
  simp only at e hbd; subst e
  unfold emendref19_Find_b4
  simp only [Int.toNat_natCast]
  by_cases hlt : k < xs.length
  · left
    have hd : xs.drop k = xs[k] :: xs.drop (k + 1) := List.drop_eq_getElem_cons hlt
    obtain ⟨p, hp, a1, a2, a3⟩ := hok xs[k] (List.getElem_mem hlt)
    have hg : xs[k]? = some (pieceOf l p) := by rw [List.getElem?_eq_getElem hlt, hp]
    rw [hd, linesW, hp, allOf_piece l p a1 a2 a3, List.filterMap_append] at hbd
    rw [hd, linesW, hp, allOf_piece l p a1 a2 a3, List.filterMap_append, List.any_append]
    obtain ⟨n1, n2⟩ := line_n (segOf l p) p.1
    rw [← piece_line] at n1 n2
    have hsl := seg_len l p a1 a2 a3
    rw [if_pos (decide_eq_true (show (k : Int) < (xs.length : Int) by omega)), ix_of hg rfl]
    simp only [Option.bind_some]
    rw [chkT (show I64 ((pieceOf l p).n - ((pieceOf l p).toks.length : Int)) by omega), line_loop name f l xs k p hg a1 a2 a3 hl hf gl o (by simp only [List.length_append] at hbd ⊢; omega), Option.bind_some]
    unfold emendref19_Find_j5
    simp only
    rw [chkT (show I64 ((k : Int) + 1) by omega)]
    refine ⟨_, rfl, ⟨k + 1, rfl, by omega, by simp only [List.length_append] at hbd ⊢; omega⟩, by simp only; omega, ?_⟩
    simp only [Int.toNat_natCast, Bool.or_assoc, List.append_assoc]
    rfl
  · right
    rw [if_neg (by simp; omega), List.drop_of_length_le (by omega)]
    simp [linesW]
theorem rfind_eq (fs : List GFile) (name : List UInt8) (hl : fs.length ≤ 2000000) (h : ∀ f ∈ fs, f.text.length ≤ 2000000) (hw : (wordsF 0 fs).length ≤ 3000000) : emendref19_Find fs name = some (findF name fs, (wordsF 0 fs).any (gluF name)) := by
  unfold emendref19_Find findF
  have key : loopS (emendref19_Find_b2 fs name) (false, 0, []) = some ((wordsF 0 fs).any (gluF name), (wordsF 0 fs).filterMap (siteF name)) := by
    refine loopS_of (f := emendref19_Find_b2 fs name) (fun s => ∃ k : Nat, s.2.1 = (k : Int) ∧ k ≤ fs.length ∧ (s.2.2 ++ (wordsF k (fs.drop k)).filterMap (siteF name)).length ≤ 2000000000) (fun s => fs.length - s.2.1.toNat)
      (fun s => (s.1 || (wordsF s.2.1.toNat (fs.drop s.2.1.toNat)).any (gluF name), s.2.2 ++ (wordsF s.2.1.toNat (fs.drop s.2.1.toNat)).filterMap (siteF name))) (s := (false, (0 : Int), ([] : List GSite))) ⟨0, rfl, Nat.zero_le _, by
        have := List.length_filterMap_le (siteF name) (wordsF 0 fs)
        simp only [List.nil_append, List.drop_zero]; omega⟩ (by simp only; omega) ?_
    rintro ⟨gl, ki, o⟩ ⟨k, e, hk, hbd⟩
    simp only at e hbd; subst e
    unfold emendref19_Find_b2
    simp only [Int.toNat_natCast]
    by_cases hlt : k < fs.length
    · left
      have hd : fs.drop k = fs[k] :: fs.drop (k + 1) := List.drop_eq_getElem_cons hlt
      have htx := h fs[k] (List.getElem_mem hlt)
      have h1 := tokens_len (k : Int) fs[k].text
      rw [hd, wordsF, List.filterMap_append] at hbd
      rw [hd, wordsF, List.filterMap_append, List.any_append]
      rw [if_pos (decide_eq_true (show (k : Int) < (fs.length : Int) by omega)), ix_at hlt, Option.bind_some, rtokens_eq _ _ htx, Option.bind_some, rlines_eq _ (by omega), Option.bind_some,
        file_loop name (k : Int) _ (by omega) (fun t ht => by unfold tokens at ht; obtain ⟨q, _, rfl⟩ := List.mem_map.1 ht; rfl) gl o (by simp only [List.length_append] at hbd ⊢; omega), Option.bind_some]
      unfold emendref19_Find_j3
      simp only
      rw [chkT (show I64 ((k : Int) + 1) by omega)]
      refine ⟨_, rfl, ⟨k + 1, rfl, by omega, by simp only [List.length_append] at hbd ⊢; omega⟩, by simp only; omega, ?_⟩
      simp only [Int.toNat_natCast, Bool.or_assoc, List.append_assoc]
      rfl
    · right
      rw [if_neg (by simp; omega), List.drop_of_length_le (by omega)]
      simp [wordsF]
  rw [key]; rfl
/-! ### the laws -/
theorem short_eq (fs : List GFile) (m : Int) (hm : m ≤ 1000000) : emendref11_Short fs m = some (decide (fs.length ≤ 6) && fs.all (fun f => decide ((f.text.length : Int) ≤ m) && decide (f.path.length ≤ 100))) := by
  unfold emendref11_Short
  by_cases h6 : 6 < fs.length
  · rw [if_pos (decide_eq_true (by omega)), decide_eq_false (by omega)]; rfl
  rw [if_neg (by simp; omega), decide_eq_true (show fs.length ≤ 6 by omega), Bool.true_and]
  have hloop := loopS_find (f := emendref11_Short_b2 fs m) fs (fun f => !(decide ((f.text.length : Int) ≤ m) && decide (f.path.length ≤ 100))) false (by omega) (fun k hk => by
    unfold emendref11_Short_b2
    simp only [ix_at hk, chkB, andB, orB, condAnd, condOr, iteB, neqB, nltB, nleB, m8_9, m8_10, m8_11, m8_12, m8_13, m8_32, m8_34, m8_35, m8_39, m8_40, m8_41, m8_42, m8_43, m8_44, m8_45, m8_46, m8_47, m8_48, m8_60, m8_62, m8_64, m8_65, m8_67, m8_69, m8_80, m8_90, m8_92, m8_95, m8_97, m8_101, m8_112, m8_122, m8, orO_some, andO_some, Option.bind_some, getD_drop]
    rw [iteT (ltT (by omega))]
    by_cases h1 : (fs[k].text.length : Int) ≤ m
    · by_cases h2 : fs[k].path.length ≤ 100
      · rw [iteF (by rw [ltF h1, ltF (by omega)]; rfl), pk (by omega), leT h1, show decide (fs[k].path.length ≤ 100) = true from decide_eq_true h2]; rfl
      · rw [iteT (by rw [ltT (a := 100) (by omega)]; simp), show decide (fs[k].path.length ≤ 100) = false from decide_eq_false h2]; simp
    · rw [iteT (by rw [ltT (by omega)]; rfl), leF (by omega)]; rfl) (by
    unfold emendref11_Short_b2
    rw [if_neg (by simp)])
  rw [hloop, Option.bind_some]
  by_cases ha : fs.all (fun f => decide ((f.text.length : Int) ≤ m) && decide (f.path.length ≤ 100)) = true
  · rw [if_neg (by rw [List.any_eq_true]; rintro ⟨x, hx, h⟩; rw [List.all_eq_true.1 ha x hx] at h; cases h), ha]; rfl
  · rw [if_pos (by
      rw [List.any_eq_true]
      have : ∃ x ∈ fs, ¬ (decide ((x.text.length : Int) ≤ m) && decide (x.path.length ≤ 100)) = true := by
        apply Classical.byContradiction
        intro hn
        exact ha (List.all_eq_true.2 fun x hx => Classical.byContradiction fun h => hn ⟨x, hx, h⟩)
      obtain ⟨x, hx, h⟩ := this
      exact ⟨x, hx, by rw [Bool.eq_false_iff.2 h]; rfl⟩), Bool.eq_false_iff.2 ha]
theorem short_true {fs : List GFile} {m : Int} (h : (decide (fs.length ≤ 6) && fs.all (fun f => decide ((f.text.length : Int) ≤ m) && decide (f.path.length ≤ 100))) = true) : fs.length ≤ 6 ∧ ∀ f ∈ fs, (f.text.length : Int) ≤ m := by
  rw [Bool.and_eq_true] at h
  refine ⟨of_decide_eq_true h.1, fun f hf => ?_⟩
  have := List.all_eq_true.1 h.2 f hf
  rw [Bool.and_eq_true] at this
  exact of_decide_eq_true this.1
theorem ssame_eq (a b : List GSite) (h : a.length ≤ 9223372036854775806) : emendref19_Same a b = some (decide (a = b)) := by
  unfold emendref19_Same
  by_cases hl : a.length = b.length
  · rw [if_neg (by simp [hl])]
    rw [loopS_same (f := emendref19_Same_b2 a b) a b id false h hl (fun k hk hk2 => by
      unfold emendref19_Same_b2
      simp only [ix_at hk, ix_at hk2, chkB, andB, orB, condAnd, condOr, iteB, neqB, nltB, nleB, m8_9, m8_10, m8_11, m8_12, m8_13, m8_32, m8_34, m8_35, m8_39, m8_40, m8_41, m8_42, m8_43, m8_44, m8_45, m8_46, m8_47, m8_48, m8_60, m8_62, m8_64, m8_65, m8_67, m8_69, m8_80, m8_90, m8_92, m8_95, m8_97, m8_101, m8_112, m8_122, m8, orO_some, andO_some, Option.bind_some, getD_drop]
      rw [iteT (ltT (by omega))]
      by_cases hp : a[k] = b[k]
      · rw [iteF (by rw [eqT hp]; rfl), pk (by omega), if_pos (show id a[k] = id b[k] from hp)]; rfl
      · rw [iteT (by rw [eqF hp]; rfl), if_neg (show ¬ id a[k] = id b[k] from hp)]) (by
      unfold emendref19_Same_b2
      rw [if_neg (by simp)]), Option.bind_some]
    simp only [List.map_id]
    by_cases e : a = b
    · rw [if_pos e, decide_eq_true e]; rfl
    · rw [if_neg e, decide_eq_false e]
  · rw [if_pos (by simp; omega), decide_eq_false (fun e => hl (by rw [e]))]
theorem findF_len (name : List UInt8) (fs : List GFile) (h6 : fs.length ≤ 6) (h : ∀ f ∈ fs, f.text.length ≤ 600) : (wordsF 0 fs).length ≤ 3000000 ∧ (findF name fs).length ≤ 3000000 := by
  have h1 := wordsF_len fs 0 h
  have h2 := List.length_filterMap_le (siteF name) (wordsF 0 fs)
  have h3 : fs.length * 360600 ≤ 6 * 360600 := Nat.mul_le_mul_right _ h6
  unfold findF; omega
theorem sitesFind_law (fs : List GFile) (name : List UInt8) : emendlaw19_SitesFind fs name = some true := by
  unfold emendlaw19_SitesFind
  rw [awake19, Option.bind_some, short_eq fs 600 (by omega), Option.bind_some]
  by_cases hs : (decide (fs.length ≤ 6) && fs.all (fun f => decide ((f.text.length : Int) ≤ 600) && decide (f.path.length ≤ 100))) = true
  · obtain ⟨h6, ht⟩ := short_true hs
    have h600 : ∀ f ∈ fs, f.text.length ≤ 600 := fun f hf => by have := ht f hf; omega
    have h2m : ∀ f ∈ fs, f.text.length ≤ 2000000 := fun f hf => by have := ht f hf; omega
    obtain ⟨b1, b2⟩ := findF_len name fs h6 h600
    rw [hs, if_neg (by simp), find_eq fs name (by omega) h2m b1, Option.bind_some, rfind_eq fs name (by omega) h2m b1, Option.bind_some, glued_eq fs name (by omega) h2m, Option.bind_some, ssame_eq _ _ (by omega)]
    simp [andO]
  · rw [Bool.eq_false_iff.2 hs]; rfl
theorem keyword_eq (s : List UInt8) : parse_Keyword s = emendref16_Keyword s := by
  have hk : keywords.length ≤ 2000000 := by decide
  have e : emendref16_Keyword_l0 = keywords := by unfold emendref16_Keyword_l0 keywords; rfl
  have h1 : slices_Index_Lstring_string keywords s = some (if keywords.any (fun y => decide (s = y)) = true then ((keywords.findIdx (fun y => decide (s = y)) : Nat) : Int) else -1) := by
    unfold slices_Index_Lstring_string
    have hl := loopS_ix (f := slices_Index_Lstring_string_b2 keywords s) keywords.length (by omega) (fun k x => x = (k : Int) ∧ (keywords.take k).any (fun y => decide (s = y)) = false) (fun r => r = if keywords.any (fun y => decide (s = y)) = true then .inr ((keywords.findIdx (fun y => decide (s = y)) : Nat) : Int) else .inl ()) (s0 := (0 : Int)) ⟨rfl, rfl⟩ (by
      rintro k x hk ⟨rfl, h⟩
      have hstep : slices_Index_Lstring_string_b2 keywords s (k : Int) = if s = keywords[k] then some (.done (.inr (k : Int))) else some (.next ((k + 1 : Nat) : Int)) := by
        unfold slices_Index_Lstring_string_b2
        simp only [ix_at hk, chkB, andB, orB, condAnd, condOr, iteB, neqB, nltB, nleB, m8_9, m8_10, m8_11, m8_12, m8_13, m8_32, m8_34, m8_35, m8_39, m8_40, m8_41, m8_42, m8_43, m8_44, m8_45, m8_46, m8_47, m8_48, m8_60, m8_62, m8_64, m8_65, m8_67, m8_69, m8_80, m8_90, m8_92, m8_95, m8_97, m8_101, m8_112, m8_122, m8, orO_some, andO_some, Option.bind_some, getD_drop]
        rw [iteT (ltT (by omega))]
        by_cases hs : s = keywords[k]
        · rw [iteT (eqT hs), if_pos hs]
        · rw [iteF (eqF hs), if_neg hs, pk (by omega)]; rfl
      rw [hstep]
      by_cases hs : s = keywords[k]
      · right
        rw [if_pos hs]
        refine ⟨_, rfl, ?_⟩
        have hany : keywords.any (fun y => decide (s = y)) = true := List.any_eq_true.2 ⟨keywords[k], List.getElem_mem hk, decide_eq_true hs⟩
        have hidx : keywords.findIdx (fun y => decide (s = y)) = k := by
          rw [List.findIdx_eq hk]
          refine ⟨decide_eq_true hs, fun j hj => ?_⟩
          have : (keywords.take k)[j]? = some keywords[j] := by rw [List.getElem?_take, if_pos hj]; exact List.getElem?_eq_getElem (by omega)
          have hm : keywords[j] ∈ keywords.take k := List.mem_of_getElem? this
          have := List.any_eq_false.1 h _ hm
          simpa using this
        rw [if_pos hany, hidx]
      · left
        refine ⟨((k + 1 : Nat) : Int), ?_, rfl, ?_⟩
        · rw [if_neg hs]
        · rw [List.take_add_one, List.getElem?_eq_getElem hk, List.any_append, h]
          simp [hs]) (by
      rintro x ⟨rfl, h⟩
      rw [List.take_length] at h
      refine ⟨.inl (), ?_, by rw [h]; rfl⟩
      unfold slices_Index_Lstring_string_b2
      simp only [chkB, andB, orB, condAnd, condOr, iteB, neqB, nltB, nleB, m8_9, m8_10, m8_11, m8_12, m8_13, m8_32, m8_34, m8_35, m8_39, m8_40, m8_41, m8_42, m8_43, m8_44, m8_45, m8_46, m8_47, m8_48, m8_60, m8_62, m8_64, m8_65, m8_67, m8_69, m8_80, m8_90, m8_92, m8_95, m8_97, m8_101, m8_112, m8_122, m8, orO_some, andO_some, Option.bind_some, getD_drop]
      exact iteF (ltF (by omega)))
    obtain ⟨r, g1, rfl⟩ := hl
    rw [g1, Option.bind_some]
    by_cases ha : keywords.any (fun y => decide (s = y)) = true
    · rw [if_pos ha, if_pos ha]
    · rw [if_neg ha, if_neg ha]; rfl
  have h2 : emendref16_in s keywords = some (keywords.any (fun y => decide (y = s))) := by
    unfold emendref16_in
    rw [loopS_find (f := emendref16_in_b2 s keywords) keywords (fun y => decide (y = s)) true hk (fun k hk => by
      unfold emendref16_in_b2
      simp only [ix_at hk, chkB, andB, orB, condAnd, condOr, iteB, neqB, nltB, nleB, m8_9, m8_10, m8_11, m8_12, m8_13, m8_32, m8_34, m8_35, m8_39, m8_40, m8_41, m8_42, m8_43, m8_44, m8_45, m8_46, m8_47, m8_48, m8_60, m8_62, m8_64, m8_65, m8_67, m8_69, m8_80, m8_90, m8_92, m8_95, m8_97, m8_101, m8_112, m8_122, m8, orO_some, andO_some, Option.bind_some, getD_drop]
      rw [iteT (ltT (by omega))]
      by_cases hs : keywords[k] = s
      · rw [iteT (eqT hs), iteT (eqT hs)]
      · rw [iteF (eqF hs), iteF (eqF hs), pk (by omega)]; rfl) (by
      unfold emendref16_in_b2
      rw [if_neg (by simp)]), Option.bind_some]
    by_cases ha : keywords.any (fun y => decide (y = s)) = true
    · rw [if_pos ha, ha]
    · rw [if_neg ha, Bool.eq_false_iff.2 ha]; rfl
  have hc : keywords.any (fun y => decide (y = s)) = keywords.any (fun y => decide (s = y)) := by
    congr 1; funext y
    by_cases h : y = s
    · rw [h]
    · rw [decide_eq_false h, decide_eq_false (Ne.symm h)]
  unfold parse_Keyword slices_Contains_Lstring_string emendref16_Keyword
  rw [e, h1, h2, hc]
  simp only [Option.bind_some]
  by_cases ha : keywords.any (fun y => decide (s = y)) = true
  · rw [if_pos ha, ha, decide_eq_true (by omega)]
  · rw [if_neg ha, Bool.eq_false_iff.2 ha]; rfl
theorem keyword_some (s : List UInt8) : ∃ b, parse_Keyword s = some b := by
  rw [keyword_eq]
  unfold emendref16_Keyword emendref16_in
  have e : emendref16_Keyword_l0.length ≤ 2000000 := by unfold emendref16_Keyword_l0; decide
  rw [loopS_find (f := emendref16_in_b2 s emendref16_Keyword_l0) emendref16_Keyword_l0 (fun y => decide (y = s)) true e (fun k hk => by
      unfold emendref16_in_b2
      simp only [ix_at hk, chkB, andB, orB, condAnd, condOr, iteB, neqB, nltB, nleB, m8_9, m8_10, m8_11, m8_12, m8_13, m8_32, m8_34, m8_35, m8_39, m8_40, m8_41, m8_42, m8_43, m8_44, m8_45, m8_46, m8_47, m8_48, m8_60, m8_62, m8_64, m8_65, m8_67, m8_69, m8_80, m8_90, m8_92, m8_95, m8_97, m8_101, m8_112, m8_122, m8, orO_some, andO_some, Option.bind_some, getD_drop]
      rw [iteT (ltT (by omega))]
      by_cases hs : emendref16_Keyword_l0[k] = s
      · rw [iteT (eqT hs), iteT (eqT hs)]
      · rw [iteF (eqF hs), iteF (eqF hs), pk (by omega)]; rfl) (by
      unfold emendref16_in_b2
      rw [if_neg (by simp)]), Option.bind_some]
  split <;> exact ⟨_, rfl⟩
theorem right_eq (name : List UInt8) (h : name.length ≤ 2000000) : ∃ b, sites_Right name = some b ∧ emendref19_Right name = some b := by
  obtain ⟨k, hk⟩ := keyword_some name
  have hk2 := hk
  rw [keyword_eq] at hk2
  unfold sites_Right emendref19_Right
  rw [pone_eq name h, rone_eq name h, hk, hk2]
  simp only [chkB, andB, orB, condAnd, condOr, iteB, neqB, nltB, nleB, m8_9, m8_10, m8_11, m8_12, m8_13, m8_32, m8_34, m8_35, m8_39, m8_40, m8_41, m8_42, m8_43, m8_44, m8_45, m8_46, m8_47, m8_48, m8_60, m8_62, m8_64, m8_65, m8_67, m8_69, m8_80, m8_90, m8_92, m8_95, m8_97, m8_101, m8_112, m8_122, m8, orO_some, andO_some, Option.bind_some, getD_drop]
  cases (oneOf name).2 <;> cases ((oneOf name).1.kind == 1) <;> exact ⟨_, rfl, rfl⟩
theorem sitesRight_law (fs : List GFile) (name : List UInt8) : emendlaw19_SitesRight fs name = some true := by
  unfold emendlaw19_SitesRight
  rw [awake19, Option.bind_some, short_eq fs 600 (by omega), Option.bind_some]
  by_cases hs : (decide (fs.length ≤ 6) && fs.all (fun f => decide ((f.text.length : Int) ≤ 600) && decide (f.path.length ≤ 100))) = true
  · obtain ⟨h6, ht⟩ := short_true hs
    have h600 : ∀ f ∈ fs, f.text.length ≤ 600 := fun f hf => by have := ht f hf; omega
    have h2m : ∀ f ∈ fs, f.text.length ≤ 2000000 := fun f hf => by have := ht f hf; omega
    obtain ⟨b1, b2⟩ := findF_len name fs h6 h600
    rw [hs]
    by_cases hn : 200 < name.length
    · rw [show orO (!true) (some (decide ((200 : Int) < (name.length : Int)))) = some true by rw [decide_eq_true (by omega)]; rfl]; rfl
    rw [show orO (!true) (some (decide ((200 : Int) < (name.length : Int)))) = some false by rw [decide_eq_false (by omega)]; rfl, Option.bind_some, if_neg (by simp)]
    obtain ⟨b, r1, r2⟩ := right_eq name (by omega)
    unfold sites_Free
    rw [r1, r2, find_eq fs name (by omega) h2m b1, rfind_eq fs name (by omega) h2m b1]
    simp only [Option.bind_some, chkB, andB, orB, condAnd, condOr, iteB, neqB, nltB, nleB, m8_9, m8_10, m8_11, m8_12, m8_13, m8_32, m8_34, m8_35, m8_39, m8_40, m8_41, m8_42, m8_43, m8_44, m8_45, m8_46, m8_47, m8_48, m8_60, m8_62, m8_64, m8_65, m8_67, m8_69, m8_80, m8_90, m8_92, m8_95, m8_97, m8_101, m8_112, m8_122, m8, orO_some, andO_some, Option.bind_some, getD_drop]
    cases b <;> simp
  · rw [Bool.eq_false_iff.2 hs]; rfl
theorem sitesSpelling_law (fs : List GFile) (s : GSite) : emendlaw19_SitesSpelling fs s = some true := by
  unfold emendlaw19_SitesSpelling
  rw [awake19, Option.bind_some, short_eq fs 600 (by omega), Option.bind_some]
  by_cases hs : (decide (fs.length ≤ 6) && fs.all (fun f => decide ((f.text.length : Int) ≤ 600) && decide (f.path.length ≤ 100))) = true
  · rw [hs, if_neg (by simp)]
    unfold sites_Spelling
    simp only [chkB, andB, orB, condAnd, condOr, iteB, neqB, nltB, nleB, m8_9, m8_10, m8_11, m8_12, m8_13, m8_32, m8_34, m8_35, m8_39, m8_40, m8_41, m8_42, m8_43, m8_44, m8_45, m8_46, m8_47, m8_48, m8_60, m8_62, m8_64, m8_65, m8_67, m8_69, m8_80, m8_90, m8_92, m8_95, m8_97, m8_101, m8_112, m8_122, m8, orO_some, andO_some, Option.bind_some, getD_drop]
    by_cases hc : (ilt s.file_ 0 || ile (fs.length : Int) s.file_) = true
    · have h4 : (ilt s.file_ 0 || ile (fs.length : Int) s.file_ || ilt s.from_ 0 || ilt s.to s.from_) = true := by rw [hc]; simp
      simp only [h4, cond_true, Option.bind_some]
      simp
    · have hc := Bool.eq_false_iff.2 hc
      by_cases h4 : (ilt s.file_ 0 || ile (fs.length : Int) s.file_ || ilt s.from_ 0 || ilt s.to s.from_) = true
      · simp only [h4, cond_true, Option.bind_some]
        simp
      · have h4 := Bool.eq_false_iff.2 h4
        simp only [Bool.or_eq_false_iff] at h4
        obtain ⟨⟨⟨c1, c2⟩, c3⟩, c4⟩ := h4
        rw [c1, c2, c3, c4]
        simp only [ilt, ile, decide_eq_false_iff_not] at c1 c2 c3 c4
        have hlt : s.file_.toNat < fs.length := by omega
        rw [ix_of (List.getElem?_eq_getElem hlt) (by omega)]
        simp only [Bool.or_self, cond_false, Option.bind_some, chkB, andB, orB, condAnd, condOr, iteB, neqB, nltB, nleB, m8_9, m8_10, m8_11, m8_12, m8_13, m8_32, m8_34, m8_35, m8_39, m8_40, m8_41, m8_42, m8_43, m8_44, m8_45, m8_46, m8_47, m8_48, m8_60, m8_62, m8_64, m8_65, m8_67, m8_69, m8_80, m8_90, m8_92, m8_95, m8_97, m8_101, m8_112, m8_122, m8, orO_some, andO_some, Option.bind_some, getD_drop]
        by_cases hto : ((fs[s.file_.toNat].text.length : Int) < s.to)
        · rw [ltT hto]; simp
        · rw [ltF (by omega), iteF rfl, pk (by omega), Option.bind_some, iteF rfl]
          simp only [Bool.true_and]
          rw [iteT (by rfl), pk (by omega)]
          simp
  · rw [Bool.eq_false_iff.2 hs]; rfl
end Go.Sh
