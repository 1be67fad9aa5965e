/-
  What files define, ask for and spell; by the program and by the document. No program in sight.
-/
import Derived.Test.YtdbcklichbiihaaDoorF1
import Derived.Test.YtdbcklichbiihaaDoorCc
import Derived.Test.YtdbcklichbiihaaDoorT2
set_option linter.unusedVariables false
set_option linter.unusedSimpArgs false
namespace Go.Sh
open Go
theorem short_eq (fs : List GFile) (m : Int) (hm : m ≤ 1000000) : emendref11_Short fs m = some (decide (fs.length ≤ 6) && fs.all (fun f => decide ((f.text.length : Int) ≤ m) && decide (f.path.length ≤ 100))) := by
  unfold emendref11_Short
  by_cases h6 : 6 < fs.length
  · rw [if_pos (decide_eq_true (by omega)), decide_eq_false (by omega)]; rfl
  rw [if_neg (by simp; omega), decide_eq_true (show fs.length ≤ 6 by omega), Bool.true_and]
  have hloop := loopS_find (f := emendref11_Short_b2 fs m) fs (fun f => !(decide ((f.text.length : Int) ≤ m) && decide (f.path.length ≤ 100))) false (by omega) (fun k hk => by
    unfold emendref11_Short_b2
    simp only [ix_at hk, chkB, andB, orB, condAnd, condOr, iteB, neqB, nltB, nleB, m8_9, m8_10, m8_11, m8_12, m8_13, m8_32, m8_34, m8_35, m8_39, m8_40, m8_41, m8_42, m8_43, m8_44, m8_45, m8_46, m8_47, m8_48, m8_60, m8_62, m8_64, m8_65, m8_67, m8_69, m8_80, m8_90, m8_92, m8_95, m8_97, m8_101, m8_112, m8_122, m8, orO_some, andO_some, Option.bind_some, getD_drop]
    rw [iteT (ltT (by omega))]
    by_cases h1 : (fs[k].text.length : Int) ≤ m
    · by_cases h2 : fs[k].path.length ≤ 100
      · rw [iteF (by rw [ltF h1, ltF (by omega)]; rfl), pk (by omega), leT h1, show decide (fs[k].path.length ≤ 100) = true from decide_eq_true h2]; rfl
      · rw [iteT (by rw [ltT (a := 100) (by omega)]; simp), show decide (fs[k].path.length ≤ 100) = false from decide_eq_false h2]; simp
    · rw [iteT (by rw [ltT (by omega)]; rfl), leF (by omega)]; rfl) (by
    unfold emendref11_Short_b2
    rw [if_neg (by simp)])
  rw [hloop, Option.bind_some]
  by_cases ha : fs.all (fun f => decide ((f.text.length : Int) ≤ m) && decide (f.path.length ≤ 100)) = true
  · rw [if_neg (by rw [List.any_eq_true]; rintro ⟨x, hx, h⟩; rw [List.all_eq_true.1 ha x hx] at h; cases h), ha]; rfl
  · rw [if_pos (by
      rw [List.any_eq_true]
      have : ∃ x ∈ fs, ¬ (decide ((x.text.length : Int) ≤ m) && decide (x.path.length ≤ 100)) = true := by
        apply Classical.byContradiction
        intro hn
        exact ha (List.all_eq_true.2 fun x hx => Classical.byContradiction fun h => hn ⟨x, hx, h⟩)
      obtain ⟨x, hx, h⟩ := this
      exact ⟨x, hx, by rw [Bool.eq_false_iff.2 h]; rfl⟩), Bool.eq_false_iff.2 ha]
theorem short_true {fs : List GFile} {m : Int} (h : (decide (fs.length ≤ 6) && fs.all (fun f => decide ((f.text.length : Int) ≤ m) && decide (f.path.length ≤ 100))) = true) : fs.length ≤ 6 ∧ ∀ f ∈ fs, (f.text.length : Int) ≤ m := by
  rw [Bool.and_eq_true] at h
  refine ⟨of_decide_eq_true h.1, fun f hf => ?_⟩
  have := List.all_eq_true.1 h.2 f hf
  rw [Bool.and_eq_true] at this
  exact of_decide_eq_true this.1
/-! ### lines of all files -/
def linesAll : Nat → List GFile → List GLine
  | _, [] => []
  | i, f :: r => linesOf (tokens (i : Int) f.text) ++ linesAll (i + 1) r
theorem linesAll_append : ∀ (a b : List GFile) (i : Nat), linesAll i (a ++ b) = linesAll i a ++ linesAll (i + a.length) b
  | [], b, i => rfl
  | f :: a, b, i => by
    rw [List.cons_append, linesAll, linesAll, linesAll_append a b (i + 1), List.append_assoc, List.length_cons, show i + 1 + a.length = i + (a.length + 1) by omega]
theorem linesAll_len : ∀ (fs : List GFile) (i : Nat), (∀ f ∈ fs, f.text.length ≤ 600) → (linesAll i fs).length ≤ fs.length * 601 ∧ ∀ x ∈ linesAll i fs, x.toks.length ≤ 600
  | [], i, h => ⟨Nat.le_refl _, fun x hx => by cases hx⟩
  | f :: r, i, h => by
    obtain ⟨h1, h2⟩ := linesAll_len r (i + 1) (fun g hg => h g (by simp [hg]))
    have h3 := linesOf_len (tokens (i : Int) f.text)
    have h4 := tokens_len (i : Int) f.text
    have h5 := h f (by simp)
    rw [linesAll]
    refine ⟨by rw [List.length_append, List.length_cons]; omega, fun x hx => ?_⟩
    rcases List.mem_append.1 hx with hx | hx
    · have := linesOf_toks _ x hx; omega
    · exact h2 x hx
theorem linesO_eq (F : List Tx → GLine → List Tx) : ∀ (fs : List GFile) (i : Nat) (ks : List Tx), (∀ f ∈ fs, f.text.length ≤ 600) → linesO F i fs ks = some ((linesAll i fs).foldl F ks)
  | [], i, ks, h => rfl
  | f :: r, i, ks, h => by
    have h3 := linesOf_len (tokens (i : Int) f.text)
    have h4 := tokens_len (i : Int) f.text
    have h5 := h f (by simp)
    rw [linesO, tokens_eq _ _ (by omega), Option.bind_some, lines_eq _ (by omega), Option.bind_some, chkT ⟨by omega, fun x hx => by have := linesOf_toks _ x hx; omega⟩, linesO_eq F r (i + 1) _ (fun g hg => h g (by simp [hg])), linesAll, List.foldl_append]
theorem rlines_all (fs : List GFile) (h6 : fs.length ≤ 6) (h : ∀ f ∈ fs, f.text.length ≤ 600) : emendref11_lines fs = some (linesAll 0 fs) := by
  unfold emendref11_lines
  obtain ⟨r, g1, rfl⟩ := loopS_ix (f := emendref11_lines_b2 fs) fs.length (by omega) (fun k s => s.1 = (k : Int) ∧ s.2 = linesAll 0 (fs.take k)) (fun r => r = linesAll 0 fs) (s0 := ((0 : Int), ([] : List GLine))) ⟨rfl, rfl⟩ (by
    rintro k ⟨i, out⟩ hk ⟨h1, h2⟩
    simp only at h1 h2
    subst h1; subst h2
    left
    have hf := h _ (List.getElem_mem hk)
    have h3 := linesOf_len (tokens (k : Int) fs[k].text)
    have h4 := tokens_len (k : Int) fs[k].text
    have h5 := (linesAll_len (fs.take k) 0 (fun f hf => h f (List.mem_of_mem_take hf))).1
    rw [List.length_take] at h5
    have h7 : min k fs.length * 601 ≤ 6 * 601 := Nat.mul_le_mul_right _ (by omega)
    have htake : fs.take (k + 1) = fs.take k ++ [fs[k]] := by rw [List.take_add_one, List.getElem?_eq_getElem hk]; rfl
    refine ⟨(((k + 1 : Nat) : Int), linesAll 0 (fs.take (k + 1))), ?_, rfl, rfl⟩
    unfold emendref11_lines_b2
    simp only
    rw [if_pos (decide_eq_true (show (k : Int) < (fs.length : Int) by omega)), ix_at hk, Option.bind_some, rtokens_eq _ _ (by omega), Option.bind_some, rlines_eq _ (by omega), Option.bind_some, chkT (by omega), chkT (by omega), htake, linesAll_append, List.length_take, Nat.zero_add, show min k fs.length = k by omega]
    simp only [linesAll, List.append_nil]; rfl) (by
    rintro ⟨i, out⟩ ⟨h1, h2⟩
    simp only at h1 h2
    subst h1; subst h2
    rw [List.take_length]
    refine ⟨_, ?_, rfl⟩
    unfold emendref11_lines_b2
    exact if_neg (by simp))
  rw [g1]; rfl
/-- the tokens that a line defines, asks for -/
def knG (x : GLine) : List GTok := if x.kind = 8 ∨ x.kind = 9 then x.toks.take 1 else []
def asG (x : GLine) : List GTok := if x.kind = 2 ∨ x.kind = 5 ∨ x.kind = 3 ∨ x.kind = 4 then x.toks else []
theorem knownF_G (ks : List Tx) (x : GLine) : knownF ks x = addS ks (knG x) := by
  unfold knownF knG
  by_cases h : x.kind = 8 ∨ x.kind = 9
  · by_cases h2 : 0 < x.toks.length
    · rw [if_pos ⟨h, h2⟩, if_pos h]
    · rw [if_neg (fun h3 => h2 h3.2), if_pos h, List.length_eq_zero_iff.1 (show x.toks.length = 0 by omega)]; rfl
  · rw [if_neg (fun h3 => h h3.1), if_neg h]; rfl
theorem askedF_G (ks : List Tx) (x : GLine) : askedF ks x = addS ks (asG x) := by
  unfold askedF asG
  split
  · rfl
  · rfl
def knL (fs : List GFile) : List GTok := (linesAll 0 fs).flatMap knG
def asL (fs : List GFile) : List GTok := (linesAll 0 fs).flatMap asG
theorem flat_len (G : GLine → List GTok) (n : Nat) : ∀ xs : List GLine, (∀ x ∈ xs, (G x).length ≤ n) → (xs.flatMap G).length ≤ xs.length * n
  | [], h => by simp
  | x :: xs, h => by
    have h1 := flat_len G n xs (fun y hy => h y (by simp [hy]))
    have h2 := h x (by simp)
    rw [List.flatMap_cons, List.length_append, List.length_cons, Nat.add_mul, Nat.one_mul]; omega
theorem knG_len (x : GLine) : (knG x).length ≤ x.toks.length ∧ (knG x).length ≤ 1 := by unfold knG; split <;> simp [List.length_take] <;> omega
theorem asG_len (x : GLine) : (asG x).length ≤ x.toks.length := by unfold asG; split <;> simp
theorem L_len (fs : List GFile) (h6 : fs.length ≤ 6) (h : ∀ f ∈ fs, f.text.length ≤ 600) : (knL fs).length ≤ 30000 ∧ (asL fs).length ≤ 3000000 := by
  obtain ⟨h1, h2⟩ := linesAll_len fs 0 h
  have h3 := flat_len knG 1 (linesAll 0 fs) (fun x hx => (knG_len x).2)
  have h4 := flat_len asG 600 (linesAll 0 fs) (fun x hx => by have := h2 x hx; have := asG_len x; omega)
  unfold knL asL; omega
/-- fewer: a line's tokens are a file's -/
theorem linesOf_sub (l : List GTok) : ∀ x ∈ linesOf l, x.toks.Sublist l := by
  intro x hx
  unfold linesOf at hx
  obtain ⟨p, hp, rfl⟩ := List.mem_map.1 hx
  obtain ⟨_, _, k, hk, e⟩ := lineOf_n ((l.drop p.1.toNat).take (p.2.toNat - p.1.toNat)) p.1
  unfold pieceOf
  rw [e]
  exact (List.drop_sublist _ _).trans ((List.take_sublist _ _).trans (List.drop_sublist _ _))
def toksAll : Nat → List GFile → List GTok
  | _, [] => []
  | i, f :: r => tokens (i : Int) f.text ++ toksAll (i + 1) r
theorem toksAll_len : ∀ (fs : List GFile) (i : Nat), (∀ f ∈ fs, f.text.length ≤ 600) → (toksAll i fs).length ≤ fs.length * 600
  | [], i, h => by simp [toksAll]
  | f :: r, i, h => by
    have h1 := toksAll_len r (i + 1) (fun g hg => h g (by simp [hg]))
    have h4 := tokens_len (i : Int) f.text
    have h5 := h f (by simp)
    rw [toksAll, List.length_append, List.length_cons]; omega
theorem toksAll_append : ∀ (a b : List GFile) (i : Nat), toksAll i (a ++ b) = toksAll i a ++ toksAll (i + a.length) b
  | [], b, i => rfl
  | f :: a, b, i => by
    rw [List.cons_append, toksAll, toksAll, toksAll_append a b (i + 1), List.append_assoc, List.length_cons, show i + 1 + a.length = i + (a.length + 1) by omega]
theorem spelledO_eq : ∀ (fs : List GFile) (i : Nat) (ks : List Tx), (∀ f ∈ fs, f.text.length ≤ 600) → spelledO i fs ks = some (addS ks (toksAll i fs))
  | [], i, ks, h => rfl
  | f :: r, i, ks, h => by
    have h3 := tokens_len (i : Int) f.text
    have h4 := h f (by simp)
    rw [spelledO, tokens_eq _ _ (by omega), Option.bind_some, chkT (by omega), spelledO_eq r (i + 1) _ (fun g hg => h g (by simp [hg])), toksAll, addS_append]
/-! ### the program's answers -/
theorem known_eq (fs : List GFile) (h6 : fs.length ≤ 6) (h : ∀ f ∈ fs, f.text.length ≤ 600) : world_Known fs = some (setOf (knL fs)) := by
  have e : (linesAll 0 fs).foldl knownF [] = addS [] (knL fs) := by
    rw [show knownF = fun ks x => addS ks (knG x) from by funext ks x; exact knownF_G ks x, addS_fold]; rfl
  obtain ⟨l1, l2⟩ := L_len fs h6 h
  have h1 := addS_len (knL fs) []
  rw [List.length_nil] at h1
  unfold world_Known world_known
  rw [chkT (by omega), linesO_eq knownF fs 0 [] h, Option.bind_some, e, chkT ⟨addS_nodup _ _ List.nodup_nil, by omega⟩]; rfl
theorem spelled_eq (fs : List GFile) (h6 : fs.length ≤ 6) (h : ∀ f ∈ fs, f.text.length ≤ 600) : world_Spelled fs = some (setOf (toksAll 0 fs)) := by
  have l1 := toksAll_len fs 0 h
  have h1 := addS_len (toksAll 0 fs) []
  rw [List.length_nil] at h1
  unfold world_Spelled
  rw [chkT (by omega), spelledO_eq fs 0 [] h, Option.bind_some, chkT ⟨addS_nodup _ _ List.nodup_nil, by omega⟩]; rfl
def namesOf (fs : List GFile) : List Tx := (setOf (asL fs)).filter fun n => !decide (n ∈ setOf (knL fs) ++ notNames)
def namesR (fs : List GFile) : List Tx × Int := if 8 < (namesOf fs).length then ([], 110) else (namesOf fs, 0)
theorem names_eq (fs : List GFile) (h6 : fs.length ≤ 6) (h : ∀ f ∈ fs, f.text.length ≤ 600) : world_Names fs = some (namesR fs) := by
  have e : (linesAll 0 fs).foldl askedF [] = addS [] (asL fs) := by
    rw [show askedF = fun ks x => addS ks (asG x) from by funext ks x; exact askedF_G ks x, addS_fold]; rfl
  obtain ⟨l1, l2⟩ := L_len fs h6 h
  have h1 := addS_len (asL fs) []
  rw [List.length_nil] at h1
  have h2 := setOf_len (knL fs)
  unfold world_Names
  rw [chkT (by omega), linesO_eq askedF fs 0 [] h, Option.bind_some, e, known_eq fs h6 h, Option.bind_some, chkT ⟨by omega, addS_nodup _ _ List.nodup_nil, by omega⟩]
  show (if 8 < (namesOf fs).length then some ([], 110) else some (namesOf fs, 0)) = some (namesR fs)
  unfold namesR
  split <;> rfl
/-! ### the document's answers -/
theorem rput_loop {f : List Tx × Int → Option (Step (List Tx × Int) (List Tx))} (L : List GTok) (hL : L.length ≤ 2000) (ks0 : List Tx) (hs : Srt ks0) (hk0 : ks0.length ≤ 90000000)
    (step : ∀ (ks : List Tx) (k : Nat) (h : k < L.length), Srt ks → ks.length ≤ 99000000 → f (ks, (k : Int)) = some (.next ((if L[k].kind = 1 then rput L[k].text ks else ks), ((k + 1 : Nat) : Int))))
    (last : ∀ ks, f (ks, (L.length : Int)) = some (.done ks)) : loopS f (ks0, 0) = some (rputs ks0 L) := by
  obtain ⟨r, g1, rfl⟩ := loopS_ix (f := f) L.length (by omega) (fun k s => s = (rputs ks0 (L.take k), (k : Int))) (fun r => r = rputs ks0 L) (s0 := (ks0, (0 : Int))) rfl (by
    rintro k s hk rfl
    left
    have h1 := rputs_len (L.take k) ks0
    rw [List.length_take] at h1
    refine ⟨_, step _ k hk (rputs_srt _ _ hs) (by omega), ?_⟩
    rw [List.take_add_one, List.getElem?_eq_getElem hk, rputs_append]; rfl) (by
    rintro s rfl
    rw [List.take_length]
    exact ⟨_, last _, rfl⟩)
  exact g1
theorem rspelled_eq (fs : List GFile) (h6 : fs.length ≤ 6) (h : ∀ f ∈ fs, f.text.length ≤ 600) : emendref11_Spelled fs = some (setOf (toksAll 0 fs)) := by
  unfold emendref11_Spelled
  obtain ⟨r, g1, rfl⟩ := loopS_ix (f := emendref11_Spelled_b2 fs) fs.length (by omega) (fun k s => s = (rputs [] (toksAll 0 (fs.take k)), (k : Int))) (fun r => r = rputs [] (toksAll 0 fs)) (s0 := (([] : List Tx), (0 : Int))) rfl (by
    rintro k s hk rfl
    left
    have hf := h _ (List.getElem_mem hk)
    have h4 := tokens_len (k : Int) fs[k].text
    have h5 := toksAll_len (fs.take k) 0 (fun f hf => h f (List.mem_of_mem_take hf))
    have h7 := rputs_len (toksAll 0 (fs.take k)) []
    rw [List.length_take] at h5
    rw [List.length_nil] at h7
    have htake : fs.take (k + 1) = fs.take k ++ [fs[k]] := by rw [List.take_add_one, List.getElem?_eq_getElem hk]; rfl
    refine ⟨_, ?_, rfl⟩
    unfold emendref11_Spelled_b2
    simp only
    rw [if_pos (decide_eq_true (show (k : Int) < (fs.length : Int) by omega)), ix_at hk, Option.bind_some, rtokens_eq _ _ (by omega), Option.bind_some]
    rw [rput_loop (f := emendref11_Spelled_b4 (tokens (k : Int) fs[k].text)) (tokens (k : Int) fs[k].text) (by omega) _ (rputs_srt _ _ List.Pairwise.nil) (by omega) (by
      intro ks j hj hs hl
      unfold emendref11_Spelled_b4
      simp only
      rw [if_pos (decide_eq_true (by omega)), ix_at hj, Option.bind_some]
      by_cases h1 : (tokens (k : Int) fs[k].text)[j].kind = 1
      · rw [if_pos (decide_eq_true h1), if_pos h1, Option.bind_some, put_eq _ _ hs (by omega), Option.bind_some, chkT (by omega)]; rfl
      · rw [if_neg (by simpa using h1), if_neg h1, chkT (by omega)]; rfl) (by
      intro ks
      unfold emendref11_Spelled_b4
      exact if_neg (by simp)), Option.bind_some]
    unfold emendref11_Spelled_j3
    rw [chkT (by omega), htake, toksAll_append, rputs_append, List.length_take, Nat.zero_add, show min k fs.length = k by omega]
    simp only [toksAll, List.append_nil]; rfl) (by
    rintro s rfl
    rw [List.take_length]
    refine ⟨_, ?_, rfl⟩
    unfold emendref11_Spelled_b2
    exact if_neg (by simp))
  rw [g1, Option.bind_some, rputs_setOf]; rfl
theorem ix_zero (l : List GTok) : l ≠ [] → ∃ t, l.take 1 = [t] ∧ ix l 0 = some t := fun h => by
  cases l with
  | nil => exact (h rfl).elim
  | cons t r => exact ⟨t, rfl, rfl⟩
theorem rknown_eq (fs : List GFile) (h6 : fs.length ≤ 6) (h : ∀ f ∈ fs, f.text.length ≤ 600) : emendref11_Known fs = some (setOf (knL fs)) := by
  unfold emendref11_Known
  obtain ⟨l1, l2⟩ := linesAll_len fs 0 h
  rw [rlines_all fs h6 h, Option.bind_some]
  have hk : knL fs = (linesAll 0 fs).flatMap knG := rfl
  rw [hk]
  generalize linesAll 0 fs = L at *
  obtain ⟨r, g1, rfl⟩ := loopS_ix (f := emendref11_Known_b2 L) L.length (by omega) (fun k s => s = (rputs [] ((L.take k).flatMap knG), (k : Int))) (fun r => r = rputs [] (L.flatMap knG)) (s0 := (([] : List Tx), (0 : Int))) rfl (by
    rintro k s hk rfl
    left
    have h5 := flat_len knG 1 (L.take k) (fun x hx => (knG_len x).2)
    rw [List.length_take] at h5
    have h7 := rputs_len ((L.take k).flatMap knG) []
    rw [List.length_nil] at h7
    have hs := rputs_srt ((L.take k).flatMap knG) [] List.Pairwise.nil
    refine ⟨_, ?_, rfl⟩
    rw [List.take_add_one, List.getElem?_eq_getElem hk, List.flatMap_append, rputs_append]
    generalize rputs [] ((L.take k).flatMap knG) = ks at *
    unfold emendref11_Known_b2
    simp only [Option.toList_some, List.flatMap_cons, List.flatMap_nil, List.append_nil, ix_at hk, chkB, andB, orB, condAnd, condOr, iteB, neqB, nltB, nleB, m8_9, m8_10, m8_11, m8_12, m8_13, m8_32, m8_34, m8_35, m8_39, m8_40, m8_41, m8_42, m8_43, m8_44, m8_45, m8_46, m8_47, m8_48, m8_60, m8_62, m8_64, m8_65, m8_67, m8_69, m8_80, m8_90, m8_92, m8_95, m8_97, m8_101, m8_112, m8_122, m8, orO_some, andO_some, Option.bind_some, getD_drop]
    rw [iteT (ltT (show (k : Int) < (L.length : Int) by omega))]
    generalize L[k] = x
    have hc : I64 ((k : Int) + 1) := by omega
    by_cases h8 : x.kind = 8 ∨ x.kind = 9
    · have e8 : (x.kind == 8 || x.kind == 9) = true := by simpa using h8
      rw [e8]
      by_cases hn : x.toks = []
      · rw [show knG x = [] by unfold knG; rw [if_pos h8, hn]; rfl, hn, List.length_nil, ltF (show ((0 : Nat) : Int) ≤ 0 by omega), Bool.true_and, iteF rfl, Option.bind_some, iteF rfl, pk hc]; rfl
      · obtain ⟨t, e1, e2⟩ := ix_zero x.toks hn
        have hpos : 0 < x.toks.length := List.length_pos_iff.2 hn
        rw [show knG x = [t] by unfold knG; rw [if_pos h8, e1], e2, ltT (show (0 : Int) < (x.toks.length : Int) by omega), Bool.true_and, iteT rfl, Option.bind_some, Option.bind_some, Option.bind_some]
        by_cases ht : t.kind = 1
        · rw [eqT ht, iteT rfl, put_eq _ _ hs (by omega), Option.bind_some, pk hc, rputs_cons, if_pos ht]; rfl
        · rw [eqF ht, iteF rfl, pk hc, rputs_cons, if_neg ht]; rfl
    · have e8 : (x.kind == 8 || x.kind == 9) = false := by simpa using h8
      rw [e8, show knG x = [] by unfold knG; rw [if_neg h8], Bool.false_and, iteF rfl, Option.bind_some, iteF rfl, pk hc]; rfl) (by
    rintro s rfl
    rw [List.take_length]
    refine ⟨_, ?_, rfl⟩
    unfold emendref11_Known_b2
    exact if_neg (by simp))
  rw [g1, Option.bind_some, rputs_setOf]; rfl
theorem rput_loopQ {f : List Tx × Int → Option (Step (List Tx × Int) (List Tx))} (q : GTok → Bool) (L : List GTok) (hL : L.length ≤ 2000) (ks0 : List Tx) (hs : Srt ks0) (hk0 : ks0.length ≤ 90000000)
    (step : ∀ (ks : List Tx) (k : Nat) (h : k < L.length), Srt ks → ks.length ≤ 99000000 → f (ks, (k : Int)) = some (.next ((if L[k].kind = 1 ∧ q L[k] = true then rput L[k].text ks else ks), ((k + 1 : Nat) : Int))))
    (last : ∀ ks, f (ks, (L.length : Int)) = some (.done ks)) : loopS f (ks0, 0) = some (rputs ks0 (L.filter q)) := by
  obtain ⟨r, g1, rfl⟩ := loopS_ix (f := f) L.length (by omega) (fun k s => s = (rputs ks0 ((L.take k).filter q), (k : Int))) (fun r => r = rputs ks0 (L.filter q)) (s0 := (ks0, (0 : Int))) rfl (by
    rintro k s hk rfl
    left
    have h1 := rputs_len ((L.take k).filter q) ks0
    have h2 := List.length_filter_le q (L.take k)
    rw [List.length_take] at h2
    refine ⟨_, step _ k hk (rputs_srt _ _ hs) (by omega), ?_⟩
    rw [List.take_add_one, List.getElem?_eq_getElem hk, List.filter_append, rputs_append, Option.toList_some, List.filter_cons]
    by_cases hq : q L[k] = true
    · rw [if_pos hq, List.filter_nil, rputs_cons]
      by_cases h1 : L[k].kind = 1
      · rw [if_pos ⟨h1, hq⟩, if_pos h1]; rfl
      · rw [if_neg (fun h => h1 h.1), if_neg h1]; rfl
    · rw [if_neg hq, if_neg (fun h => hq h.2)]; rfl) (by
    rintro s rfl
    rw [List.take_length]
    exact ⟨_, last _, rfl⟩)
  exact g1
theorem idents_filter (q : GTok → Bool) (L : List GTok) : idents (L.filter q) = (idents L).filter q := by
  unfold idents; rw [List.filter_filter, List.filter_filter]; congr 1; funext t; rw [Bool.and_comm]
def okQ (fs : List GFile) (t : GTok) : Bool := !decide (t.text ∈ setOf (knL fs) ++ notNames)
theorem namesOf_srt (fs : List GFile) : Srt (namesOf fs) := (setOf_srt (asL fs)).sublist List.filter_sublist
theorem namesOf_mem (fs : List GFile) (x : Tx) : x ∈ namesOf fs ↔ x ∈ (idents (asL fs)).map GTok.text ∧ x ∉ setOf (knL fs) ∧ x ∉ notNames := by
  unfold namesOf
  rw [List.mem_filter, setOf_mem]
  simp
theorem rnames_set (fs : List GFile) : rputs [] ((asL fs).filter (okQ fs)) = namesOf fs := by
  refine srt_uniq (rputs_srt _ [] List.Pairwise.nil) (namesOf_srt fs) (fun x => ?_)
  rw [rputs_mem, namesOf_mem, idents_filter]
  simp only [List.not_mem_nil, false_or, List.mem_map, List.mem_filter, okQ, Bool.not_eq_true', decide_eq_false_iff_not, List.mem_append, not_or]
  constructor
  · rintro ⟨t, ⟨h1, h2, h3⟩, rfl⟩; exact ⟨⟨t, h1, rfl⟩, h2, h3⟩
  · rintro ⟨⟨t, h1, rfl⟩, h2, h3⟩; exact ⟨t, ⟨h1, h2, h3⟩, rfl⟩
theorem rnames_eq (fs : List GFile) (h6 : fs.length ≤ 6) (h : ∀ f ∈ fs, f.text.length ≤ 600) : emendref11_Names fs = some (namesR fs) := by
  unfold emendref11_Names
  obtain ⟨l1, l2⟩ := linesAll_len fs 0 h
  have hkn := setOf_len (knL fs)
  have hkl := (L_len fs h6 h).1
  rw [rknown_eq fs h6 h, Option.bind_some, rlines_all fs h6 h, Option.bind_some]
  have hr := rnames_set fs
  have hk : asL fs = (linesAll 0 fs).flatMap asG := rfl
  rw [hk] at hr
  have hq : ∀ t, okQ fs t = !decide (t.text ∈ setOf (knL fs) ++ notNames) := fun t => rfl
  have hR : namesR fs = if 8 < (namesOf fs).length then ([], 110) else (namesOf fs, 0) := rfl
  rw [hR]
  generalize okQ fs = q at *
  generalize namesOf fs = R at *
  generalize setOf (knL fs) = kn at *
  generalize linesAll 0 fs = L at *
  obtain ⟨r, g1, rfl⟩ := loopS_ix (f := emendref11_Names_b2 kn L) L.length (by omega) (fun k s => s = (rputs [] (((L.take k).flatMap asG).filter q), (k : Int))) (fun r => r = R) (s0 := (([] : List Tx), (0 : Int))) rfl (by
    rintro k s hk rfl
    left
    have h5 := flat_len asG 600 (L.take k) (fun x hx => by have := l2 x (List.mem_of_mem_take hx); have := asG_len x; omega)
    have h5b := List.length_filter_le q ((L.take k).flatMap asG)
    rw [List.length_take] at h5
    have h7 := rputs_len (((L.take k).flatMap asG).filter q) []
    rw [List.length_nil] at h7
    have hs := rputs_srt (((L.take k).flatMap asG).filter q) [] List.Pairwise.nil
    refine ⟨_, ?_, rfl⟩
    have hx := l2 _ (List.getElem_mem hk)
    rw [List.take_add_one, List.getElem?_eq_getElem hk, List.flatMap_append, List.filter_append, rputs_append]
    generalize rputs [] (((L.take k).flatMap asG).filter q) = ks at *
    have hc : I64 ((k : Int) + 1) := by omega
    unfold emendref11_Names_b2
    simp only [Option.toList_some, List.flatMap_cons, List.flatMap_nil, List.append_nil, ix_at hk, chkB, andB, orB, condAnd, condOr, iteB, neqB, nltB, nleB, m8_9, m8_10, m8_11, m8_12, m8_13, m8_32, m8_34, m8_35, m8_39, m8_40, m8_41, m8_42, m8_43, m8_44, m8_45, m8_46, m8_47, m8_48, m8_60, m8_62, m8_64, m8_65, m8_67, m8_69, m8_80, m8_90, m8_92, m8_95, m8_97, m8_101, m8_112, m8_122, m8, orO_some, andO_some, Option.bind_some, getD_drop]
    rw [iteT (ltT (show (k : Int) < (L.length : Int) by omega))]
    by_cases ha : L[k].kind = 2 ∨ L[k].kind = 5 ∨ L[k].kind = 3 ∨ L[k].kind = 4
    · rw [iteF (by rcases ha with e | e | e | e <;> rw [e] <;> rfl), show asG L[k] = L[k].toks by unfold asG; rw [if_pos ha]]
      rw [rput_loopQ (f := emendref11_Names_b4 kn L (k : Int)) q L[k].toks (by omega) ks hs (by omega) (by
        intro ks2 j hj hs2 hl2
        have hcj : I64 ((j : Int) + 1) := by omega
        unfold emendref11_Names_b4
        simp only [ix_at hk, ix_at hj, has_eq11 kn _ (show kn.length ≤ 2000000 by omega), chkB, andB, orB, condAnd, condOr, iteB, neqB, nltB, nleB, m8_9, m8_10, m8_11, m8_12, m8_13, m8_32, m8_34, m8_35, m8_39, m8_40, m8_41, m8_42, m8_43, m8_44, m8_45, m8_46, m8_47, m8_48, m8_60, m8_62, m8_64, m8_65, m8_67, m8_69, m8_80, m8_90, m8_92, m8_95, m8_97, m8_101, m8_112, m8_122, m8, orO_some, andO_some, Option.bind_some, getD_drop]
        rw [iteT (ltT (show (j : Int) < (L[k].toks.length : Int) by omega))]
        generalize L[k].toks[j] = t
        have hq := hq t
        by_cases hok : t.kind = 1 ∧ q t = true
        · rw [if_pos hok]
          have h9 : t.text ∉ kn ++ notNames := by have := hok.2; rw [hq] at this; simpa using this
          rw [List.mem_append, not_or] at h9
          have h10 : t.text ≠ [100, 101, 102, 105, 110, 101, 100] ∧ t.text ≠ [95, 95, 86, 65, 95, 65, 82, 71, 83, 95, 95] := by
            have := h9.2; unfold notNames at this; simpa using this
          rw [iteT (by rw [eqT hok.1, eqF h10.1, eqF h10.2, decide_eq_false h9.1]; rfl), put_eq _ _ hs2 (by omega), Option.bind_some, pk hcj]; rfl
        · rw [if_neg hok, iteF ?_, pk hcj]
          · rfl
          apply Bool.eq_false_iff.2
          intro hb
          simp only [Bool.and_eq_true, Bool.not_eq_true', beq_iff_eq, beq_eq_false_iff_ne, decide_eq_false_iff_not] at hb
          obtain ⟨⟨⟨b1, b2⟩, b3⟩, b4⟩ := hb
          refine hok ⟨b1, ?_⟩
          rw [hq]
          have : t.text ∉ kn ++ notNames := by
            rw [List.mem_append, not_or]
            refine ⟨b4, ?_⟩
            unfold notNames
            simp [b2, b3]
          simp only [this, decide_false, Bool.not_false]) (by
        intro ks2
        unfold emendref11_Names_b4
        simp only [ix_at hk, chkB, andB, orB, condAnd, condOr, iteB, neqB, nltB, nleB, m8_9, m8_10, m8_11, m8_12, m8_13, m8_32, m8_34, m8_35, m8_39, m8_40, m8_41, m8_42, m8_43, m8_44, m8_45, m8_46, m8_47, m8_48, m8_60, m8_62, m8_64, m8_65, m8_67, m8_69, m8_80, m8_90, m8_92, m8_95, m8_97, m8_101, m8_112, m8_122, m8, orO_some, andO_some, Option.bind_some, getD_drop]
        exact iteF (ltF (Int.le_refl _))), Option.bind_some]
      unfold emendref11_Names_j3
      rw [chkT hc]; rfl
    · rw [iteT (by
        have h1 : L[k].kind ≠ 2 := fun e => ha (.inl e)
        have h2 : L[k].kind ≠ 5 := fun e => ha (.inr (.inl e))
        have h3 : L[k].kind ≠ 3 := fun e => ha (.inr (.inr (.inl e)))
        have h4 : L[k].kind ≠ 4 := fun e => ha (.inr (.inr (.inr e)))
        rw [eqF h1, eqF h2, eqF h3, eqF h4]; rfl), pk hc, show asG L[k] = [] by unfold asG; rw [if_neg ha]]; rfl) (by
    rintro s rfl
    rw [List.take_length]
    refine ⟨_, ?_, hr⟩
    unfold emendref11_Names_b2
    exact if_neg (by simp))
  rw [g1, Option.bind_some]
  unfold emendref11_Names_j1
  by_cases h8 : 8 < r.length
  · rw [if_pos h8, if_pos (decide_eq_true (by omega))]
  · rw [if_neg h8, if_neg (by rw [decide_eq_false (show ¬ (8 : Int) < (r.length : Int) by omega)]; simp)]
end Go.Sh
