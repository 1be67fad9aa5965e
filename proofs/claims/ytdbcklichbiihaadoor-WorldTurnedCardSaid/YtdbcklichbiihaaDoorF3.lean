/-
  WorldNames, WorldTurned, WorldAsked in plain words. No program in sight.
-/
import Derived.Test.YtdbcklichbiihaaDoorF2
set_option linter.unusedVariables false
set_option linter.unusedSimpArgs false
namespace Go.Sh
open Go
/-! ### file by file -/
def fm (d : Int) (t : GTok) : GTok := ⟨t.kind, t.text, t.file_ + d, t.from_, t.to, t.blank⟩
def ml (d : Int) (x : GLine) : GLine := ⟨x.kind, x.first, x.n, x.toks.map (fm d)⟩
theorem tokens_fm (i d : Int) (t : List UInt8) : tokens (i + d) t = (tokens i t).map (fm d) := by
  unfold tokens; rw [List.map_map]; rfl
theorem pieces_fm (d : Int) : ∀ (l : List GTok) (f i : Nat), piecesF f i (l.map (fm d)) = piecesF f i l
  | [], _, _ => rfl
  | t :: r, f, i => by
    rw [List.map_cons, piecesF, piecesF, pieces_fm d r, pieces_fm d r]; rfl
theorem lineOf_fm (d : Int) (l : List GTok) (a : Int) : lineOf (l.map (fm d)) a = ml d (lineOf l a) := by
  match l with
  | [] => rfl
  | [t] =>
    simp only [lineOf, List.map_cons, List.map_nil]
    by_cases h : t.kind = 5 ∧ t.text = [35]
    · rw [if_pos (show (fm d t).kind = 5 ∧ (fm d t).text = [35] from h), if_pos h]; rfl
    · rw [if_neg (show ¬ ((fm d t).kind = 5 ∧ (fm d t).text = [35]) from h), if_neg h]; rfl
  | t :: u :: r =>
    simp only [lineOf, List.map_cons]
    by_cases h : t.kind = 5 ∧ t.text = [35]
    · rw [if_pos (show (fm d t).kind = 5 ∧ (fm d t).text = [35] from h), if_pos h]
      by_cases h2 : u.kind = 1 ∧ kindOf u.text ≠ 0
      · rw [if_pos (show (fm d u).kind = 1 ∧ kindOf (fm d u).text ≠ 0 from h2), if_pos h2]
        simp only [ml, List.length_map]; rfl
      · rw [if_neg (show ¬ ((fm d u).kind = 1 ∧ kindOf (fm d u).text ≠ 0) from h2), if_neg h2]
        simp only [ml, List.length_map, List.map_cons]
    · rw [if_neg (show ¬ ((fm d t).kind = 5 ∧ (fm d t).text = [35]) from h), if_neg h]
      simp only [ml, List.length_map, List.length_cons, List.map_cons]
theorem linesOf_fm (d : Int) (l : List GTok) : linesOf (l.map (fm d)) = (linesOf l).map (ml d) := by
  unfold linesOf
  rw [pieces_fm, List.map_map]
  refine List.map_congr_left fun p _ => ?_
  simp only [Function.comp, pieceOf]
  rw [← List.map_drop, ← List.map_take, lineOf_fm]
theorem tokens_zero (i : Nat) (t : List UInt8) : tokens (i : Int) t = (tokens 0 t).map (fm i) := by
  have := tokens_fm 0 (i : Int) t
  rwa [Int.zero_add] at this
theorem idents_fm (d : Int) : ∀ l : List GTok, (idents (l.map (fm d))).map GTok.text = (idents l).map GTok.text
  | [] => rfl
  | t :: r => by
    rw [List.map_cons, idents_cons, idents_cons]
    by_cases h : t.kind = 1
    · rw [if_pos (show (fm d t).kind = 1 from h), if_pos h, List.map_cons, List.map_cons, idents_fm d r]; rfl
    · rw [if_neg (show ¬ (fm d t).kind = 1 from h), if_neg h, idents_fm d r]
theorem idents_append (a b : List GTok) : idents (a ++ b) = idents a ++ idents b := by unfold idents; rw [List.filter_append]
def Moves (G : GLine → List GTok) : Prop := ∀ d x, G (ml d x) = (G x).map (fm d)
theorem knG_moves : Moves knG := fun d x => by
  unfold knG
  by_cases h : x.kind = 8 ∨ x.kind = 9
  · rw [if_pos (show (ml d x).kind = 8 ∨ (ml d x).kind = 9 from h), if_pos h, List.map_take]; rfl
  · rw [if_neg (show ¬ ((ml d x).kind = 8 ∨ (ml d x).kind = 9) from h), if_neg h]; rfl
theorem asG_moves : Moves asG := fun d x => by
  unfold asG
  by_cases h : x.kind = 2 ∨ x.kind = 5 ∨ x.kind = 3 ∨ x.kind = 4
  · rw [if_pos (show (ml d x).kind = 2 ∨ (ml d x).kind = 5 ∨ (ml d x).kind = 3 ∨ (ml d x).kind = 4 from h), if_pos h]; rfl
  · rw [if_neg (show ¬ ((ml d x).kind = 2 ∨ (ml d x).kind = 5 ∨ (ml d x).kind = 3 ∨ (ml d x).kind = 4) from h), if_neg h]; rfl
/-- the names that a text's lines have by G -/
def fileG (G : GLine → List GTok) (t : List UInt8) : List Tx := (idents ((linesOf (tokens 0 t)).flatMap G)).map GTok.text
theorem flat_fm (G : GLine → List GTok) (hG : Moves G) (d : Int) : ∀ xs : List GLine, (xs.map (ml d)).flatMap G = (xs.flatMap G).map (fm d)
  | [] => rfl
  | x :: xs => by rw [List.map_cons, List.flatMap_cons, List.flatMap_cons, List.map_append, hG, flat_fm G hG d xs]
theorem names_files (G : GLine → List GTok) (hG : Moves G) : ∀ (fs : List GFile) (i : Nat), (idents ((linesAll i fs).flatMap G)).map GTok.text = fs.flatMap fun f => fileG G f.text
  | [], i => rfl
  | f :: r, i => by
    rw [linesAll, List.flatMap_append, idents_append, List.map_append, names_files G hG r (i + 1), List.flatMap_cons, tokens_zero, linesOf_fm, flat_fm G hG, idents_fm]; rfl
def fileS (t : List UInt8) : List Tx := (idents (tokens 0 t)).map GTok.text
theorem spelled_files : ∀ (fs : List GFile) (i : Nat), (idents (toksAll i fs)).map GTok.text = fs.flatMap fun f => fileS f.text
  | [], i => rfl
  | f :: r, i => by
    rw [toksAll, idents_append, List.map_append, spelled_files r (i + 1), List.flatMap_cons, tokens_zero, idents_fm]; rfl
theorem kn_mem (fs : List GFile) (x : Tx) : x ∈ setOf (knL fs) ↔ ∃ f ∈ fs, x ∈ fileG knG f.text := by
  rw [setOf_mem, show knL fs = (linesAll 0 fs).flatMap knG from rfl, names_files knG knG_moves, List.mem_flatMap]
theorem as_mem (fs : List GFile) (x : Tx) : x ∈ (idents (asL fs)).map GTok.text ↔ ∃ f ∈ fs, x ∈ fileG asG f.text := by
  rw [show asL fs = (linesAll 0 fs).flatMap asG from rfl, names_files asG asG_moves, List.mem_flatMap]
theorem sp_mem (fs : List GFile) (x : Tx) : x ∈ setOf (toksAll 0 fs) ↔ ∃ f ∈ fs, x ∈ fileS f.text := by
  rw [setOf_mem, spelled_files, List.mem_flatMap]
theorem kn_same {a b : List GFile} (h : ∀ f, f ∈ a ↔ f ∈ b) : setOf (knL a) = setOf (knL b) := srt_uniq (setOf_srt _) (setOf_srt _) fun x => by
  rw [kn_mem, kn_mem]; exact exists_congr fun f => and_congr (h f) Iff.rfl
theorem sp_same {a b : List GFile} (h : ∀ f, f ∈ a ↔ f ∈ b) : setOf (toksAll 0 a) = setOf (toksAll 0 b) := srt_uniq (setOf_srt _) (setOf_srt _) fun x => by
  rw [sp_mem, sp_mem]; exact exists_congr fun f => and_congr (h f) Iff.rfl
theorem names_same {a b : List GFile} (h : ∀ f, f ∈ a ↔ f ∈ b) : namesOf a = namesOf b := srt_uniq (namesOf_srt _) (namesOf_srt _) fun x => by
  rw [namesOf_mem, namesOf_mem, kn_same h, as_mem, as_mem]
  exact and_congr (exists_congr fun f => and_congr (h f) Iff.rfl) Iff.rfl
theorem namesR_same {a b : List GFile} (h : ∀ f, f ∈ a ↔ f ∈ b) : namesR a = namesR b := by unfold namesR; rw [names_same h]
theorem namesR_len (fs : List GFile) : (namesR fs).1.length ≤ 8 := by
  unfold namesR
  split
  · simp
  · simp only; omega
theorem sortS_eq {l m : List Tx} (hp : l.Perm m) (hm : Srt m) : sortS l = m := srt_uniq (sortS_srt l (hp.nodup_iff.2 hm.nodup)) hm (fun x => by unfold sortS; rw [List.mem_mergeSort]; exact hp.mem_iff)
abbrev awF : List GFile := [GFile.mk [97, 46, 99] emendlaw11_awake_l0]
theorem aw1 : linesO askedF 0 awF [] = some [[65], [100, 101, 102, 105, 110, 101, 100], [66], [88], [67]] := by kernel_rfl
theorem aw2 : linesO knownF 0 awF [] = some [[88]] := by kernel_rfl
theorem aw3 : world_Known awF = some [[88]] := by
  unfold world_Known world_known
  rw [chkT (by decide), aw2, Option.bind_some, chkT (by decide), sortS_eq (m := [[88]]) (List.Perm.refl _) (by unfold Srt; decide)]
theorem aw4 : world_Names awF = some ([[65], [66], [67]], 0) := by
  unfold world_Names
  rw [chkT (by decide), aw1, Option.bind_some, aw3, Option.bind_some, chkT (by decide), sortS_eq (m := [[65], [66], [67], [88], [100, 101, 102, 105, 110, 101, 100]]) (by decide) (by unfold Srt; decide)]
  rfl
theorem awake11 : emendlaw11_awake = some true := by
  unfold emendlaw11_awake
  rw [show world_Names [GFile.mk [97, 46, 99] emendlaw11_awake_l0] = _ from aw4, Option.bind_some, show world_Known [GFile.mk [97, 46, 99] emendlaw11_awake_l0] = _ from aw3, Option.bind_some]
  kernel_rfl
theorem worldTurned_law (fs : List GFile) : emendlaw11_WorldTurned fs = some true := by
  unfold emendlaw11_WorldTurned
  rw [awake11, Option.bind_some, short_eq fs 600 (by omega), Option.bind_some]
  by_cases hs : (decide (fs.length ≤ 6) && fs.all (fun f => decide ((f.text.length : Int) ≤ 600) && decide (f.path.length ≤ 100))) = true
  rotate_left
  · rw [Bool.eq_false_iff.2 hs]; rfl
  obtain ⟨h6, ht⟩ := short_true hs
  have h600 : ∀ f ∈ fs, f.text.length ≤ 600 := fun f hf => by have := ht f hf; omega
  rw [hs, if_neg (by simp), chkT (by omega)]
  obtain ⟨r, g1, rfl⟩ := loopS_rel (f := emendlaw11_WorldTurned_b2 fs) (fun s => ∃ k : Nat, k ≤ fs.length ∧ s = ((k : Int) - 1, (fs.drop k).reverse)) (fun s => (s.1 + 1).toNat) (fun r => r = fs.reverse) (s := ((fs.length : Int) - 1, ([] : List GFile))) ⟨fs.length, Nat.le_refl _, by rw [List.drop_length]; rfl⟩ (by simp only; omega) (by
    rintro s ⟨k, hk, rfl⟩
    unfold emendlaw11_WorldTurned_b2
    simp only
    cases k with
    | zero =>
      right
      rw [if_neg (by simp)]
      exact ⟨_, rfl, rfl⟩
    | succ k =>
      left
      have hk2 : k < fs.length := by omega
      have e : ((k + 1 : Nat) : Int) - 1 = (k : Int) := by omega
      rw [e, if_pos (decide_eq_true (by omega)), ix_at hk2, Option.bind_some, chkT (by rw [List.length_reverse, List.length_drop]; omega), chkT (by omega)]
      refine ⟨_, rfl, ⟨k, by omega, ?_⟩, by simp only; omega⟩
      rw [List.drop_eq_getElem_cons hk2, List.reverse_cons])
  rw [g1, Option.bind_some]
  unfold emendlaw11_WorldTurned_j1
  have hm : ∀ f, f ∈ fs ↔ f ∈ fs.reverse := fun f => List.mem_reverse.symm
  have r6 : fs.reverse.length ≤ 6 := by rw [List.length_reverse]; exact h6
  have r600 : ∀ f ∈ fs.reverse, f.text.length ≤ 600 := fun f hf => h600 f (List.mem_reverse.1 hf)
  have q1 := namesR_len fs
  have q2 := setOf_len (knL fs)
  have q3 := (L_len fs h6 h600).1
  have q4 := setOf_len (toksAll 0 fs)
  have q5 := toksAll_len fs 0 h600
  rw [names_eq fs h6 h600, Option.bind_some, names_eq _ r6 r600, Option.bind_some, known_eq fs h6 h600, Option.bind_some, known_eq _ r6 r600, Option.bind_some, spelled_eq fs h6 h600, Option.bind_some, spelled_eq _ r6 r600, Option.bind_some, ← namesR_same hm, ← kn_same hm, ← sp_same hm, same_eq11 _ _ (by omega), same_eq11 _ _ (by omega), same_eq11 _ _ (by omega)]
  simp [andO]
/-! ### Mains -/
def mainsF (out : List Tx) (f : GFile) : List Tx := if (Lib.hasSuffix f.path [46, 99] && !decide (f.path ∈ out)) = true then out ++ [f.path] else out
theorem suffix_eq (p : Tx) : Lib.hasSuffix p [46, 99] = (decide (2 ≤ p.length) && decide (p[p.length - 2]? = some 46) && decide (p[p.length - 1]? = some 99)) := by
  unfold Lib.hasSuffix
  rw [Bool.eq_iff_iff]
  simp only [Bool.and_eq_true, decide_eq_true_eq, List.isSuffixOf_iff_suffix]
  constructor
  · rintro ⟨q, rfl⟩
    simp
  · rintro ⟨⟨h1, h2⟩, h3⟩
    refine ⟨p.take (p.length - 2), ?_⟩
    have e : p.drop (p.length - 2) = [46, 99] := by
      have hl : p.length - 2 < p.length := by omega
      have hl2 : p.length - 2 + 1 < p.length := by omega
      rw [List.drop_eq_getElem_cons hl, List.drop_eq_getElem_cons hl2, List.drop_eq_nil_of_le (by omega)]
      rw [List.getElem?_eq_getElem hl] at h2
      have e3 : p.length - 2 + 1 = p.length - 1 := by omega
      simp only [e3]
      rw [List.getElem?_eq_getElem (by omega)] at h3
      injection h2 with h2; injection h3 with h3
      rw [h2, h3]
    rw [← e, List.take_append_drop]
theorem mains_len : ∀ (fs : List GFile) (out : List Tx), (fs.foldl mainsF out).length ≤ out.length + fs.length
  | [], out => Nat.le_refl _
  | f :: r, out => by
    rw [List.foldl_cons, List.length_cons]
    refine Nat.le_trans (mains_len r _) ?_
    unfold mainsF
    split
    · rw [List.length_append]; simp only [List.length_cons, List.length_nil]; omega
    · omega
theorem mains_eq (fs : List GFile) (h6 : fs.length ≤ 6) (hp : ∀ f ∈ fs, f.path.length ≤ 100) : world_Mains fs = some (fs.foldl mainsF []) := by
  unfold world_Mains
  obtain ⟨r, g1, rfl⟩ := loopS_ix (f := world_Mains_b2 fs) fs.length (by omega) (fun k s => s = ((k : Int), (fs.take k).foldl mainsF [])) (fun r => r = fs.foldl mainsF []) (s0 := ((0 : Int), ([] : List Tx))) rfl (by
    rintro k s hk rfl
    left
    have hl := mains_len (fs.take k) []
    rw [List.length_take, List.length_nil] at hl
    have hpk := hp _ (List.getElem_mem hk)
    have hc : I64 ((k : Int) + 1) := by omega
    refine ⟨_, ?_, rfl⟩
    rw [List.take_add_one, List.getElem?_eq_getElem hk, List.foldl_append]
    generalize (fs.take k).foldl mainsF [] = out at *
    unfold world_Mains_b2
    simp only [ix_at hk, contains_eq out _ (show out.length ≤ 2000000 by omega), chkB, andB, orB, condAnd, condOr, iteB, neqB, nltB, nleB, m8_9, m8_10, m8_11, m8_12, m8_13, m8_32, m8_34, m8_35, m8_39, m8_40, m8_41, m8_42, m8_43, m8_44, m8_45, m8_46, m8_47, m8_48, m8_60, m8_62, m8_64, m8_65, m8_67, m8_69, m8_80, m8_90, m8_92, m8_95, m8_97, m8_101, m8_112, m8_122, m8, orO_some, andO_some, Option.bind_some, getD_drop, Option.toList_some, List.foldl_cons, List.foldl_nil]
    rw [iteT (ltT (show (k : Int) < (fs.length : Int) by omega)), pk (by omega)]
    unfold mainsF
    generalize fs[k].path = p at *
    by_cases hb : (Lib.hasSuffix p [46, 99] && !decide (p ∈ out)) = true
    · rw [if_pos hb, iteT hb, pk (by omega), pk hc]; rfl
    · rw [if_neg hb, iteF (Bool.eq_false_iff.2 hb), pk hc]; rfl) (by
    rintro s rfl
    rw [List.take_length]
    refine ⟨_, ?_, rfl⟩
    unfold world_Mains_b2
    exact if_neg (by simp))
  rw [g1]; rfl
theorem rmains_eq (fs : List GFile) (h6 : fs.length ≤ 6) (hp : ∀ f ∈ fs, f.path.length ≤ 100) : emendref11_Mains fs = some (fs.foldl mainsF []) := by
  unfold emendref11_Mains
  obtain ⟨r, g1, rfl⟩ := loopS_ix (f := emendref11_Mains_b2 fs) fs.length (by omega) (fun k s => s = ((k : Int), (fs.take k).foldl mainsF [])) (fun r => r = fs.foldl mainsF []) (s0 := ((0 : Int), ([] : List Tx))) rfl (by
    rintro k s hk rfl
    left
    have hl := mains_len (fs.take k) []
    rw [List.length_take, List.length_nil] at hl
    have hpk := hp _ (List.getElem_mem hk)
    have hc : I64 ((k : Int) + 1) := by omega
    refine ⟨_, ?_, rfl⟩
    rw [List.take_add_one, List.getElem?_eq_getElem hk, List.foldl_append]
    generalize (fs.take k).foldl mainsF [] = out at *
    unfold emendref11_Mains_b2
    simp only [ix_at hk, has_eq11 out _ (show out.length ≤ 2000000 by omega), chkB, andB, orB, condAnd, condOr, iteB, neqB, nltB, nleB, m8_9, m8_10, m8_11, m8_12, m8_13, m8_32, m8_34, m8_35, m8_39, m8_40, m8_41, m8_42, m8_43, m8_44, m8_45, m8_46, m8_47, m8_48, m8_60, m8_62, m8_64, m8_65, m8_67, m8_69, m8_80, m8_90, m8_92, m8_95, m8_97, m8_101, m8_112, m8_122, m8, orO_some, andO_some, Option.bind_some, getD_drop, Option.toList_some, List.foldl_cons, List.foldl_nil]
    rw [iteT (ltT (show (k : Int) < (fs.length : Int) by omega))]
    unfold mainsF
    rw [suffix_eq]
    generalize fs[k].path = p at *
    by_cases h2 : 2 ≤ p.length
    · have c1 : I64 ((p.length : Int) - 2) := by omega
      have c2 : I64 ((p.length : Int) - 1) := by omega
      have x1 : ix p ((p.length : Int) - 2) = some p[p.length - 2] := ix_of (List.getElem?_eq_getElem (by omega)) (by omega)
      have x2 : ix p ((p.length : Int) - 1) = some p[p.length - 1] := ix_of (List.getElem?_eq_getElem (by omega)) (by omega)
      rw [leT (show (2 : Int) ≤ (p.length : Int) by omega), decide_eq_true h2, iteT rfl, pk c1, x1, Option.bind_some, Option.bind_some, x2, pk c2]
      rw [List.getElem?_eq_getElem (show p.length - 2 < p.length by omega), List.getElem?_eq_getElem (show p.length - 1 < p.length by omega)]
      have e1 : (p[p.length - 2] == 46) = decide (some p[p.length - 2] = some 46) := by rw [Bool.eq_iff_iff]; simp
      have e2 : ((p[p.length - 1].toNat : Int) == 99) = decide (some p[p.length - 1] = some 99) := by rw [show ((p[p.length - 1].toNat : Int) == 99) = (p[p.length - 1] == 99) from m8 _ 99, Bool.eq_iff_iff]; simp
      rw [e1]
      by_cases h3 : some p[p.length - 2] = some 46
      · rw [decide_eq_true h3, iteT rfl, Option.bind_some, Option.bind_some, e2, Bool.true_and, Bool.true_and]
        by_cases hb : (decide (some p[p.length - 1] = some 99) && !decide (p ∈ out)) = true
        · rw [if_pos hb, iteT hb, pk (by omega), pk hc]; rfl
        · rw [if_neg hb, iteF (Bool.eq_false_iff.2 hb), pk hc]; rfl
      · rw [decide_eq_false h3, iteF rfl, Option.bind_some, Bool.and_false, Bool.false_and, Bool.false_and, if_neg (by simp), iteF rfl, pk hc]; rfl
    · rw [leF (show (p.length : Int) < 2 by omega), decide_eq_false h2, iteF rfl, Option.bind_some, iteF rfl, Option.bind_some, Bool.false_and, Bool.false_and, Bool.false_and, Bool.false_and, if_neg (by simp), iteF rfl, pk hc]; rfl) (by
    rintro s rfl
    rw [List.take_length]
    refine ⟨_, ?_, rfl⟩
    unfold emendref11_Mains_b2
    exact if_neg (by simp))
  rw [g1]; rfl
theorem short_path {fs : List GFile} {m : Int} (h : (decide (fs.length ≤ 6) && fs.all (fun f => decide ((f.text.length : Int) ≤ m) && decide (f.path.length ≤ 100))) = true) : ∀ f ∈ fs, f.path.length ≤ 100 := by
  rw [Bool.and_eq_true] at h
  intro f hf
  have := List.all_eq_true.1 h.2 f hf
  rw [Bool.and_eq_true] at this
  exact of_decide_eq_true this.2
theorem worldNames_law (fs : List GFile) : emendlaw11_WorldNames fs = some true := by
  unfold emendlaw11_WorldNames
  rw [awake11, Option.bind_some, short_eq fs 600 (by omega), Option.bind_some]
  by_cases hs : (decide (fs.length ≤ 6) && fs.all (fun f => decide ((f.text.length : Int) ≤ 600) && decide (f.path.length ≤ 100))) = true
  rotate_left
  · rw [Bool.eq_false_iff.2 hs]; rfl
  obtain ⟨h6, ht⟩ := short_true hs
  have hp := short_path hs
  have h600 : ∀ f ∈ fs, f.text.length ≤ 600 := fun f hf => by have := ht f hf; omega
  have q1 := namesR_len fs
  have q2 := setOf_len (knL fs)
  have q3 := (L_len fs h6 h600).1
  have q4 := setOf_len (toksAll 0 fs)
  have q5 := toksAll_len fs 0 h600
  have q6 := mains_len fs []
  rw [List.length_nil] at q6
  rw [hs, if_neg (by simp), names_eq fs h6 h600, Option.bind_some, rnames_eq fs h6 h600, Option.bind_some, known_eq fs h6 h600, Option.bind_some, mains_eq fs h6 hp, Option.bind_some, spelled_eq fs h6 h600, Option.bind_some, rknown_eq fs h6 h600, rmains_eq fs h6 hp, rspelled_eq fs h6 h600]
  simp only [Option.bind_some]
  rw [same_eq11 _ _ (by omega), same_eq11 _ _ (by omega), same_eq11 _ _ (by omega), same_eq11 _ _ (by omega)]
  simp [andO]
/-! ### a text without the sign # -/
theorem charsAt_in : ∀ (t : List UInt8) (i : Nat), ∀ c ∈ (charsAt i t).map GChar.b, c ∈ t
  | [], i, c, h => by cases h
  | [x], i, c, h => by simpa [charsAt] using h
  | x :: y :: r, i, c, h => by
    unfold charsAt at h
    split at h
    · exact List.mem_cons_of_mem _ (List.mem_cons_of_mem _ (charsAt_in r (i + 2) c h))
    · rcases List.mem_cons.1 h with rfl | h
      · exact List.mem_cons_self
      · exact List.mem_cons_of_mem _ (charsAt_in (y :: r) (i + 1) c h)
theorem toks_in (n : Nat) : ∀ (i : Nat) (b : Bool) (u : List UInt8), u.length ≤ n → ∀ p ∈ toks i b u, ∀ c ∈ p.text, c ∈ u := by
  induction n with
  | zero =>
    intro i b u h p hp
    have : u = [] := List.length_eq_zero_iff.1 (by omega)
    subst this; rw [toks_nil] at hp; cases hp
  | succ n ih =>
    intro i b u h p hp c hc
    by_cases hu : u = []
    · subst hu; rw [toks_nil] at hp; cases hp
    by_cases hb : 0 < blankLen u
    · rw [toks_blank hb] at hp
      exact List.mem_of_mem_drop (ih _ _ _ (by rw [List.length_drop]; omega) p hp c hc)
    · have h1 := nextTok_pos u
      rw [toks_tok hu (by omega)] at hp
      rcases List.mem_cons.1 hp with rfl | hp
      · exact List.mem_of_mem_take hc
      · exact List.mem_of_mem_drop (ih _ _ _ (by rw [List.length_drop]; omega) p hp c hc)
theorem no_sign (t : List UInt8) (h : ∀ c ∈ t, c ≠ 35) : ∀ x ∈ tokens 0 t, x.text ≠ [35] := by
  intro x hx e
  unfold tokens at hx
  obtain ⟨p, hp, rfl⟩ := List.mem_map.1 hx
  have := toks_in _ 0 false _ (Nat.le_refl _) p hp 35 (by
    have e : p.text = [35] := e
    rw [e]; simp)
  exact h 35 (charsAt_in t 0 35 this) rfl
theorem lineOf_text (l : List GTok) (a : Int) (h : ∀ x ∈ l, x.text ≠ [35]) : (lineOf l a).kind = 1 := by
  unfold lineOf
  match l, h with
  | [], _ => rfl
  | [t], h => simp only; rw [if_neg (fun e => h t (by simp) e.2)]
  | t :: u :: r, h => simp only; rw [if_neg (fun e => h t (by simp) e.2)]
theorem no_lines (t : List UInt8) (h : ∀ c ∈ t, c ≠ 35) : fileG knG t = [] ∧ fileG asG t = [] := by
  have hk : ∀ x ∈ linesOf (tokens 0 t), x.kind = 1 := by
    intro x hx
    unfold linesOf at hx
    obtain ⟨p, hp, rfl⟩ := List.mem_map.1 hx
    exact lineOf_text _ _ (fun y hy => no_sign t h y (List.mem_of_mem_drop (List.mem_of_mem_take hy)))
  have h1 : (linesOf (tokens 0 t)).flatMap knG = [] := List.flatMap_eq_nil_iff.2 (fun x hx => by unfold knG; rw [hk x hx]; rfl)
  have h2 : (linesOf (tokens 0 t)).flatMap asG = [] := List.flatMap_eq_nil_iff.2 (fun x hx => by unfold asG; rw [hk x hx]; rfl)
  unfold fileG
  rw [h1, h2]; exact ⟨rfl, rfl⟩
theorem asked_spelled (t : List UInt8) (x : Tx) (h : x ∈ fileG asG t) : x ∈ fileS t := by
  unfold fileG at h
  unfold fileS
  obtain ⟨k, hk, rfl⟩ := List.mem_map.1 h
  unfold idents at hk ⊢
  obtain ⟨h1, h2⟩ := List.mem_filter.1 hk
  obtain ⟨l, hl, hkl⟩ := List.mem_flatMap.1 h1
  have h3 : k ∈ l.toks := by
    unfold asG at hkl
    split at hkl
    · exact hkl
    · cases hkl
  exact List.mem_map_of_mem (List.mem_filter.2 ⟨(linesOf_sub _ l hl).subset h3, h2⟩)
theorem worldAsked_law (fs : List GFile) (t : List UInt8) : emendlaw11_WorldAsked fs t = some true := by
  unfold emendlaw11_WorldAsked
  rw [awake11, Option.bind_some, short_eq fs 600 (by omega), Option.bind_some]
  by_cases hs : (decide (fs.length ≤ 6) && fs.all (fun f => decide ((f.text.length : Int) ≤ 600) && decide (f.path.length ≤ 100))) = true
  rotate_left
  · rw [Bool.eq_false_iff.2 hs]; rfl
  obtain ⟨h6, ht⟩ := short_true hs
  have h600 : ∀ f ∈ fs, f.text.length ≤ 600 := fun f hf => by have := ht f hf; omega
  rw [hs, show (!true) = false from rfl, orO_some, Bool.false_or, Option.bind_some, orO_some, Option.bind_some]
  by_cases hc : 5 < fs.length ∨ 300 < t.length
  · rw [if_pos (by rw [Bool.or_eq_true, decide_eq_true_eq, decide_eq_true_eq]; omega)]
  rw [if_neg (by rw [Bool.or_eq_true, decide_eq_true_eq, decide_eq_true_eq]; omega)]
  obtain ⟨r, g1, g2⟩ := loopS_ix (f := emendlaw11_WorldAsked_b2 t true) t.length (by omega) (fun k s => s = (k : Int) ∧ ∀ c ∈ t.take k, c ≠ 35) (fun r => r = .inr true ∨ (r = .inl () ∧ ∀ c ∈ t, c ≠ 35)) (s0 := (0 : Int)) ⟨rfl, by simp⟩ (by
    rintro k s hk ⟨rfl, h⟩
    unfold emendlaw11_WorldAsked_b2
    rw [if_pos (decide_eq_true (by omega)), ix_at hk, Option.bind_some]
    by_cases e : t[k] = 35
    · right
      rw [if_pos (by rw [e]; rfl)]
      exact ⟨_, rfl, .inl rfl⟩
    · left
      have e2 : ¬ ((t[k].toNat : Int) = 35) := fun h => e (UInt8.toNat_inj.1 (by rw [show (35 : UInt8).toNat = 35 from rfl]; omega))
      rw [if_neg (by simpa using e2), chkT (by omega)]
      refine ⟨_, rfl, by push_cast; rfl, ?_⟩
      rw [List.take_add_one, List.getElem?_eq_getElem hk]
      intro c hc
      rcases List.mem_append.1 hc with hc | hc
      · exact h c hc
      · rw [List.mem_singleton.1 hc]; exact e) (by
    rintro s ⟨rfl, h⟩
    rw [List.take_length] at h
    refine ⟨.inl (), ?_, .inr ⟨rfl, h⟩⟩
    unfold emendlaw11_WorldAsked_b2
    exact if_neg (by simp))
  rw [g1, Option.bind_some]
  rcases g2 with rfl | ⟨rfl, h35⟩
  · rfl
  show emendlaw11_WorldAsked_j1 fs t true () = some true
  unfold emendlaw11_WorldAsked_j1
  have q1 := namesR_len fs
  have q2 := setOf_len (knL fs)
  have q3 := (L_len fs h6 h600).1
  have q4 := setOf_len (toksAll 0 fs)
  have q5 := toksAll_len fs 0 h600
  rw [names_eq fs h6 h600, Option.bind_some, spelled_eq fs h6 h600, Option.bind_some, known_eq fs h6 h600, Option.bind_some]
  have ha : Srt (namesR fs).1 ∧ ∀ x ∈ (namesR fs).1, x ∈ setOf (toksAll 0 fs) ∧ x ∉ setOf (knL fs) := by
    have hall : ∀ x ∈ namesOf fs, x ∈ setOf (toksAll 0 fs) ∧ x ∉ setOf (knL fs) := by
      intro x hx
      obtain ⟨h1, h2, h3⟩ := (namesOf_mem fs x).1 hx
      obtain ⟨f, hf, hxf⟩ := (as_mem fs x).1 h1
      exact ⟨(sp_mem fs x).2 ⟨f, hf, asked_spelled _ _ hxf⟩, h2⟩
    unfold namesR
    split
    · exact ⟨List.Pairwise.nil, fun x hx => by cases hx⟩
    · exact ⟨namesOf_srt fs, hall⟩
  obtain ⟨ha1, ha2⟩ := ha
  obtain ⟨mo, hmo⟩ : ∃ mo, mo = fs ++ [GFile.mk [113, 46, 104] t] := ⟨_, rfl⟩
  have m6 : mo.length ≤ 6 := by rw [hmo, List.length_append]; simp only [List.length_cons, List.length_nil]; omega
  have m600 : ∀ f ∈ mo, f.text.length ≤ 600 := by
    intro f hf
    rw [hmo] at hf
    rcases List.mem_append.1 hf with hf | hf
    · exact h600 f hf
    · rw [List.mem_singleton.1 hf]; simp only; omega
  obtain ⟨n1, n2⟩ := no_lines t h35
  have hkn : setOf (knL mo) = setOf (knL fs) := srt_uniq (setOf_srt _) (setOf_srt _) fun x => by
    rw [kn_mem, kn_mem, hmo]
    constructor
    · rintro ⟨f, hf, hx⟩
      rcases List.mem_append.1 hf with hf | hf
      · exact ⟨f, hf, hx⟩
      · rw [List.mem_singleton.1 hf] at hx; simp only [n1] at hx; cases hx
    · rintro ⟨f, hf, hx⟩; exact ⟨f, List.mem_append_left _ hf, hx⟩
  have hno : namesOf mo = namesOf fs := srt_uniq (namesOf_srt _) (namesOf_srt _) fun x => by
    rw [namesOf_mem, namesOf_mem, hkn, as_mem, as_mem]
    refine and_congr ?_ Iff.rfl
    rw [hmo]
    constructor
    · rintro ⟨f, hf, hx⟩
      rcases List.mem_append.1 hf with hf | hf
      · exact ⟨f, hf, hx⟩
      · rw [List.mem_singleton.1 hf] at hx; simp only [n2] at hx; cases hx
    · rintro ⟨f, hf, hx⟩; exact ⟨f, List.mem_append_left _ hf, hx⟩
  have hnr : namesR mo = namesR fs := by unfold namesR; rw [hno]
  have hnm := names_eq mo m6 m600
  have hkm := known_eq mo m6 m600
  rw [hnr] at hnm
  rw [hkn] at hkm
  generalize hR : namesR fs = R at *
  generalize setOf (knL fs) = kn at *
  generalize setOf (toksAll 0 fs) = sp at *
  obtain ⟨r, g1, rfl⟩ := loopS_ix (f := emendlaw11_WorldAsked_b4 R sp kn) R.1.length (by omega) (fun k s => s = (k : Int)) (fun r => r = .inl ()) (s0 := (0 : Int)) rfl (by
    rintro k s hk rfl
    left
    refine ⟨((k + 1 : Nat) : Int), ?_, rfl⟩
    obtain ⟨b1, b2⟩ := ha2 _ (List.getElem_mem hk)
    have hc1 : I64 ((k : Int) + 1) := by omega
    unfold emendlaw11_WorldAsked_b4
    simp only [ix_at hk, has_eq11 sp _ (show sp.length ≤ 2000000 by omega), has_eq11 kn _ (show kn.length ≤ 2000000 by omega), decide_eq_true b1, decide_eq_false b2, chkB, andB, orB, condAnd, condOr, iteB, neqB, nltB, nleB, m8_9, m8_10, m8_11, m8_12, m8_13, m8_32, m8_34, m8_35, m8_39, m8_40, m8_41, m8_42, m8_43, m8_44, m8_45, m8_46, m8_47, m8_48, m8_60, m8_62, m8_64, m8_65, m8_67, m8_69, m8_80, m8_90, m8_92, m8_95, m8_97, m8_101, m8_112, m8_122, m8, orO_some, andO_some, Option.bind_some, getD_drop]
    rw [iteT (ltT (show (k : Int) < (R.1.length : Int) by omega))]
    cases k with
    | zero => rw [ltF (show ((0 : Nat) : Int) ≤ 0 by omega), iteF rfl, Option.bind_some, Bool.not_true, Bool.or_false, iteF rfl, Option.bind_some, iteF rfl, pk hc1]; rfl
    | succ k =>
      have hk2 : k < R.1.length := by omega
      have e1 : ((k + 1 : Nat) : Int) - 1 = (k : Int) := by omega
      have hlt := List.pairwise_iff_getElem.1 ha1 k (k + 1) hk2 hk (by omega)
      rw [ltT (show (0 : Int) < ((k + 1 : Nat) : Int) by omega), iteT rfl, e1, ix_at hk2, pk (by omega), Option.bind_some, Option.bind_some, bless, decide_eq_true hlt, Bool.not_true, Bool.or_false, iteF rfl, Option.bind_some, iteF rfl, pk hc1]; rfl) (by
    rintro s rfl
    refine ⟨.inl (), ?_, rfl⟩
    unfold emendlaw11_WorldAsked_b4
    exact if_neg (by simp))
  rw [g1, Option.bind_some]
  show emendlaw11_WorldAsked_j3 fs t true R kn () = some true
  unfold emendlaw11_WorldAsked_j3
  rw [chkT (by rw [List.length_nil]; omega), chkT (by simp only [List.length_append, List.length_nil, List.length_cons]; omega), List.nil_append, ← hmo, hnm, Option.bind_some, hkm, Option.bind_some, same_eq11 _ _ (by omega), same_eq11 _ _ (by omega)]
  simp [andO]
end Go.Sh
