/-
  Files that edits touch, and those that they don't: EditsTouched, EditsUntouched in plain words. No program in sight.
-/
import Derived.Test.YtdflfbolaicliaaK8
set_option linter.unusedVariables false
set_option linter.unusedSimpArgs false
namespace Go.Sh
open Go
theorem sortI_sorted (l : List Int) : (sortI l).Pairwise (· ≤ ·) := by
  have h := List.pairwise_mergeSort (le := fun x y : Int => decide (x ≤ y)) (fun a b c h1 h2 => by simp only [decide_eq_true_eq] at *; omega) (fun a b => by simp only [Bool.or_eq_true, decide_eq_true_eq]; omega) l
  exact h.imp fun h => of_decide_eq_true h
theorem sortI_mem {l : List Int} {x : Int} : x ∈ sortI l ↔ x ∈ l := List.mem_mergeSort
theorem compI_lt {l : List Int} (h : l.Pairwise (· ≤ ·)) : (compI l).Pairwise (· < ·) := by
  unfold compI Lib.compact Lib.compactUpTo
  rw [List.pairwise_map, List.pairwise_filter]
  refine List.pairwise_lt_range.imp_of_mem fun {a b} ha hb hab k1 k2 => ?_
  have hb := List.mem_range.1 hb
  have hgt := List.pairwise_iff_getElem.1 h
  unfold Lib.keeps at k2
  simp only [decide_eq_true_eq] at k2
  have hsz : l.toArray.size = l.length := by simp
  rw [getElem!_pos l.toArray b (by omega), getElem!_pos l.toArray (b - 1) (by omega)] at k2
  rw [getElem!_pos l.toArray a (by omega), getElem!_pos l.toArray b (by omega)]
  simp only [List.getElem_toArray] at k2 ⊢
  have h1 : l[b - 1] ≤ l[b] := hgt (b - 1) b (by omega) hb (by omega)
  have h2 : l[a] ≤ l[b - 1] := by
    by_cases e : a = b - 1
    · subst e; exact Int.le_refl _
    · exact hgt a (b - 1) (by omega) (by omega) (by omega)
  have h3 : l[b] ≠ l[b - 1] := k2.resolve_left (by omega)
  omega
theorem compI_mem {l : List Int} {x : Int} : x ∈ compI l ↔ x ∈ l := by
  unfold compI Lib.compact Lib.compactUpTo
  rw [List.mem_map]
  have hsz : l.toArray.size = l.length := by simp
  constructor
  · rintro ⟨j, hj, rfl⟩
    have hj := List.mem_range.1 (List.mem_filter.1 hj).1
    rw [getElem!_pos l.toArray j (by omega)]
    simp
  · intro hx
    obtain ⟨j, hj, rfl⟩ := List.mem_iff_getElem.1 hx
    have key : ∀ j, (hj : j < l.length) → ∃ a, a ∈ (List.range l.length).filter (Lib.keeps l.toArray) ∧ l.toArray[a]! = l[j] := by
      intro j
      induction j with
      | zero => exact fun hj => ⟨0, List.mem_filter.2 ⟨List.mem_range.2 hj, by unfold Lib.keeps; simp⟩, by rw [getElem!_pos l.toArray 0 (by omega)]; simp⟩
      | succ j ih =>
        intro hj
        by_cases e : l[j + 1] = l[j]
        · obtain ⟨a, h1, h2⟩ := ih (by omega)
          exact ⟨a, h1, by rw [h2, e]⟩
        · refine ⟨j + 1, List.mem_filter.2 ⟨List.mem_range.2 hj, ?_⟩, by rw [getElem!_pos l.toArray (j + 1) (by omega)]; simp⟩
          unfold Lib.keeps
          simp only [decide_eq_true_eq]
          right
          rw [getElem!_pos l.toArray (j + 1) (by omega), show j + 1 - 1 = j by omega, getElem!_pos l.toArray j (by omega)]
          simpa using e
    exact key j hj
def touchedS (l : List GEdit) : List Int := compI (sortI (l.map GEdit.file_))
theorem touchedS_lt (l : List GEdit) : (touchedS l).Pairwise (· < ·) := compI_lt (sortI_sorted _)
theorem touchedS_mem {l : List GEdit} {x : Int} : x ∈ touchedS l ↔ ∃ c ∈ l, c.file_ = x := by
  unfold touchedS
  rw [compI_mem, sortI_mem, List.mem_map]
theorem touchedS_len (l : List GEdit) : (touchedS l).length ≤ l.length := by
  unfold touchedS compI Lib.compact Lib.compactUpTo
  rw [List.length_map]
  exact Nat.le_trans (List.length_filter_le _ _) (by rw [List.length_range, sortI_len, List.length_map]; exact Nat.le_refl _)
theorem touched_eq (l : List GEdit) (hn : l.length ≤ 3518437208883) : edits_Touched l = some (touchedS l) := by
  unfold edits_Touched
  obtain ⟨r, h1, h2⟩ := loopS_ix (f := edits_Touched_b2 l) l.length (by omega) (fun k x => x = ((k : Int), (l.take k).map GEdit.file_)) (fun r => r = l.map GEdit.file_) (s0 := ((0 : Int), ([] : List Int))) rfl (by
    rintro k x hk rfl
    unfold edits_Touched_b2
    have hlt : (k : Int) < (l.length : Int) := by omega
    left
    refine ⟨((k : Int) + 1, (l.take k).map GEdit.file_ ++ [l[k].file_]), ?_, ?_⟩
    · simp only [chkB, dT hlt, if_true, ix_at hk, Option.bind_some]
      rw [pk (by rw [List.length_map, List.length_take]; omega), pk (i64_small (by omega) (by omega))]
    · rw [fl_nat, List.take_add_one, List.getElem?_eq_getElem hk, List.map_append]; rfl) (by
    rintro x rfl
    unfold edits_Touched_b2
    have hlt : ¬ (l.length : Int) < (l.length : Int) := by omega
    rw [List.take_length]
    exact ⟨_, if_neg (by rw [dF hlt]; simp), rfl⟩)
  rw [h1, h2]
  show edits_Touched_j1 _ = _
  unfold edits_Touched_j1
  rw [chkT (by rw [List.length_map]; omega), chkT (by rw [sortI_len, List.length_map]; omega)]
  rfl
theorem any_take {α : Type} (l : List α) (p : α → Bool) (k : Nat) (hk : k < l.length) : (l.take (k + 1)).any p = ((l.take k).any p || p l[k]) := by
  rw [List.take_add_one, List.getElem?_eq_getElem hk, List.any_append]
  simp
theorem in_loop1 (l : List GEdit) (t : List Int) (i : Nat) (hi : i < t.length) (hn : l.length ≤ 3518437208883) : loopS (emendlaw20_EditsTouched_b4 l t i) (false, (0 : Int)) = some (l.any fun c => decide (c.file_ = t[i])) := by
  obtain ⟨r, h1, h2⟩ := loopS_ix (f := emendlaw20_EditsTouched_b4 l t i) l.length (by omega) (fun k x => x = ((l.take k).any (fun c => decide (c.file_ = t[i])), (k : Int))) (fun r => r = l.any fun c => decide (c.file_ = t[i])) (s0 := (false, (0 : Int))) rfl (by
    rintro k x hk rfl
    unfold emendlaw20_EditsTouched_b4
    have hlt : (k : Int) < (l.length : Int) := by omega
    left
    refine ⟨((l.take (k + 1)).any (fun c => decide (c.file_ = t[i])), (k : Int) + 1), ?_, by rw [fl_nat]⟩
    simp only [chkB, dT hlt, if_true, ix_at hk, ix_at hi, Option.bind_some, orO_some]
    rw [pk (i64_small (by omega) (by omega)), any_take _ _ _ hk]) (by
    rintro x rfl
    unfold emendlaw20_EditsTouched_b4
    have hlt : ¬ (l.length : Int) < (l.length : Int) := by omega
    rw [List.take_length]
    exact ⟨_, if_neg (by rw [dF hlt]; simp), rfl⟩)
  rw [h1, h2]
theorem in_loop2 (l : List GEdit) (t : List Int) (k0 : Nat) (hk0 : k0 < l.length) (hn : t.length ≤ 3518437208883) : loopS (emendlaw20_EditsTouched_b8 l t k0) (false, (0 : Int)) = some (t.any fun x => decide (l[k0].file_ = x)) := by
  obtain ⟨r, h1, h2⟩ := loopS_ix (f := emendlaw20_EditsTouched_b8 l t k0) t.length (by omega) (fun k x => x = ((t.take k).any (fun x => decide (l[k0].file_ = x)), (k : Int))) (fun r => r = t.any fun x => decide (l[k0].file_ = x)) (s0 := (false, (0 : Int))) rfl (by
    rintro k x hk rfl
    unfold emendlaw20_EditsTouched_b8
    have hlt : (k : Int) < (t.length : Int) := by omega
    left
    refine ⟨((t.take (k + 1)).any (fun x => decide (l[k0].file_ = x)), (k : Int) + 1), ?_, by rw [fl_nat]⟩
    simp only [chkB, dT hlt, if_true, ix_at hk, ix_at hk0, Option.bind_some, orO_some]
    rw [pk (i64_small (by omega) (by omega)), any_take _ _ _ hk]) (by
    rintro x rfl
    unfold emendlaw20_EditsTouched_b8
    have hlt : ¬ (t.length : Int) < (t.length : Int) := by omega
    rw [List.take_length]
    exact ⟨_, if_neg (by rw [dF hlt]; simp), rfl⟩)
  rw [h1, h2]
theorem touchedL_1 (l : List GEdit) (t : List Int) (hn : l.length ≤ 3518437208883) (htl : t.length ≤ l.length) (hlt' : t.Pairwise (· < ·)) (hmem : ∀ x, x ∈ t ↔ ∃ c ∈ l, c.file_ = x) : loopS (emendlaw20_EditsTouched_b2 l t) (0 : Int) = some (.inl ()) := by
  obtain ⟨r, h1, h2⟩ := loopS_ix (f := emendlaw20_EditsTouched_b2 l t) t.length (by omega) (fun k x => x = (k : Int)) (fun r => r = .inl ()) (s0 := (0 : Int)) rfl (by
    rintro k x hk rfl
    unfold emendlaw20_EditsTouched_b2
    have hlt : (k : Int) < (t.length : Int) := by omega
    left
    refine ⟨(k : Int) + 1, ?_, fl_nat k⟩
    have hin : (l.any fun c => decide (c.file_ = t[k])) = true := by
      obtain ⟨c, hc, he⟩ := (hmem t[k]).1 (List.getElem_mem hk)
      exact List.any_eq_true.2 ⟨c, hc, dT he⟩
    have hj : emendlaw20_EditsTouched_j3 (k : Int) true = some (.next ((k : Int) + 1)) := by
      unfold emendlaw20_EditsTouched_j3
      rw [if_neg (by simp), chkT (i64_small (by omega) (by omega))]
    have key : ((loopS (emendlaw20_EditsTouched_b4 l t (k : Int)) (false, (0 : Int))).bind fun w_1 => (emendlaw20_EditsTouched_j3 (k : Int)) w_1) = some (.next ((k : Int) + 1)) := by
      rw [in_loop1 l t k hk hn, hin, Option.bind_some]
      exact hj
    refine (if_pos (dT hlt)).trans ?_
    have hb : andO (decide ((0 : Int) < (k : Int))) (chk (I64 ((k : Int) - 1)) ((ix t ((k : Int) - 1)).bind fun y_1 => (ix t (k : Int)).bind fun y_2 => some (decide (y_2 ≤ y_1)))) = some false := by
      by_cases h0 : k = 0
      · subst h0
        rw [dF (show ¬ (0 : Int) < ((0 : Nat) : Int) by omega)]; exact andO_false
      · have e1 : (k : Int) - 1 = ((k - 1 : Nat) : Int) := by omega
        have hk1 : k - 1 < t.length := by omega
        have hG := List.pairwise_iff_getElem.1 hlt' (k - 1) k hk1 hk (by omega)
        rw [dT (show (0 : Int) < (k : Int) by omega), andO_true, chkT (i64_small (by omega) (by omega)), e1, ix_at hk1, ix_at hk, Option.bind_some, Option.bind_some, dF (show ¬ t[k] ≤ t[k - 1] by omega)]
    rw [hb, Option.bind_some, if_neg (by simp)]
    exact key) (by
    rintro x rfl
    unfold emendlaw20_EditsTouched_b2
    have hlt : ¬ (t.length : Int) < (t.length : Int) := by omega
    exact ⟨_, if_neg (by rw [dF hlt]; simp), rfl⟩)
  rw [h1, h2]
theorem touchedL_2 (l : List GEdit) (t : List Int) (hn : l.length ≤ 3518437208883) (htl : t.length ≤ l.length) (hmem : ∀ x, x ∈ t ↔ ∃ c ∈ l, c.file_ = x) : loopS (emendlaw20_EditsTouched_b6 l t) (0 : Int) = some (.inl ()) := by
  obtain ⟨r2, h3, h4⟩ := loopS_ix (f := emendlaw20_EditsTouched_b6 l t) l.length (by omega) (fun k x => x = (k : Int)) (fun r => r = .inl ()) (s0 := (0 : Int)) rfl (by
    rintro k x hk rfl
    unfold emendlaw20_EditsTouched_b6
    have hlt : (k : Int) < (l.length : Int) := by omega
    left
    refine ⟨(k : Int) + 1, ?_, fl_nat k⟩
    have hin : (t.any fun x => decide (l[k].file_ = x)) = true := List.any_eq_true.2 ⟨l[k].file_, (hmem _).2 ⟨_, List.getElem_mem hk, rfl⟩, dT rfl⟩
    have hj : emendlaw20_EditsTouched_j7 (k : Int) true = some (.next ((k : Int) + 1)) := by
      unfold emendlaw20_EditsTouched_j7
      rw [if_neg (by simp), chkT (i64_small (by omega) (by omega))]
    refine (if_pos (dT hlt)).trans ?_
    rw [in_loop2 l t k hk (by omega), hin, Option.bind_some]
    exact hj) (by
    rintro x rfl
    unfold emendlaw20_EditsTouched_b6
    have hlt : ¬ (l.length : Int) < (l.length : Int) := by omega
    exact ⟨_, if_neg (by rw [dF hlt]; simp), rfl⟩)
  rw [h3, h4]
theorem editsTouched_law (l : List GEdit) (hn : l.length ≤ 3518437208883) : emendlaw20_EditsTouched l = some true := by
  unfold emendlaw20_EditsTouched
  rw [awake_eq, touched_eq l hn]
  simp only [Option.bind_some]
  rw [touchedL_1 l _ hn (touchedS_len l) (touchedS_lt l) (fun x => touchedS_mem)]
  show emendlaw20_EditsTouched_j1 l true (touchedS l) () = _
  unfold emendlaw20_EditsTouched_j1
  rw [touchedL_2 l _ hn (touchedS_len l) (fun x => touchedS_mem)]
  rfl
/-! ### what is not edited -/
theorem spl_take : ∀ (l : List GEdit) (s : List UInt8) (a k : Int), seqd s a l → a ≤ k → k ≤ (s.length : Int) → (∀ c ∈ l, k ≤ c.from_) → (spl s a l).take (k - a).toNat = cut s a k
  | [], s, a, k, h, h1, h2, h3 => by unfold spl cut; congr 1; have := h.1; omega
  | c :: r, s, a, k, h, h1, h2, h3 => by
    obtain ⟨q0, q1, q2, q3, q4⟩ := h
    have hk := h3 c (List.mem_cons_self ..)
    have hcl := cut_len s a c.from_ q0 q1 (by omega)
    unfold spl
    rw [List.append_assoc, List.take_append_of_le_length (by rw [hcl]; omega)]
    unfold cut
    rw [List.take_take]; congr 1; omega
theorem spl_suffix : ∀ (l : List GEdit) (s : List UInt8) (a e : Int), seqd s a l → a ≤ e → (∀ c ∈ l, c.to ≤ e) → ∃ p, spl s a l = p ++ s.drop e.toNat
  | [], s, a, e, h, h1, h3 => ⟨cut s a e, by unfold spl; exact (cut_drop s a e h.1 h1).symm⟩
  | c :: r, s, a, e, h, h1, h3 => by
    obtain ⟨q0, q1, q2, q3, q4⟩ := h
    obtain ⟨p, hp⟩ := spl_suffix r s c.to e q4 (h3 c (List.mem_cons_self ..)) fun d hd => h3 d (List.mem_cons_of_mem _ hd)
    exact ⟨cut s a c.from_ ++ c.text ++ p, by unfold spl; rw [hp]; simp only [List.append_assoc]⟩
theorem unt_inner (fs : List GFile) (mm : List GEdit × Int) (i : Nat) (f : GFile) (hf : fs[i]? = some f) (hn : mm.1.length ≤ 1000000) (hfl : f.text.length ≤ 1000000000) (hr : ∀ x ∈ mm.1, RightE fs x) :
    ∃ fr la : Int, loopS (emendlaw20_EditsUntouched_b4 fs mm (i : Int)) ((f.text.length : Int), (f.text.length : Int), false, (0 : Int)) = some (fr, la, mm.1.any fun c => decide (c.file_ = (i : Int))) ∧
      0 ≤ fr ∧ fr ≤ (f.text.length : Int) ∧ 0 ≤ la ∧ la ≤ (f.text.length : Int) ∧ ∀ c ∈ mm.1, c.file_ = (i : Int) → fr ≤ c.from_ ∧ c.to ≤ (f.text.length : Int) - la := by
  obtain ⟨m, e⟩ := mm
  dsimp only at hn hr ⊢
  obtain ⟨r, h1, h2⟩ := loopS_ix (f := emendlaw20_EditsUntouched_b4 fs (m, e) (i : Int)) m.length (by omega)
    (fun k x => x.2.2.2 = (k : Int) ∧ x.2.2.1 = (m.take k).any (fun c => decide (c.file_ = (i : Int))) ∧ 0 ≤ x.1 ∧ x.1 ≤ (f.text.length : Int) ∧ 0 ≤ x.2.1 ∧ x.2.1 ≤ (f.text.length : Int) ∧ ∀ c ∈ m.take k, c.file_ = (i : Int) → x.1 ≤ c.from_ ∧ c.to ≤ (f.text.length : Int) - x.2.1)
    (fun r => r.2.2 = m.any (fun c => decide (c.file_ = (i : Int))) ∧ 0 ≤ r.1 ∧ r.1 ≤ (f.text.length : Int) ∧ 0 ≤ r.2.1 ∧ r.2.1 ≤ (f.text.length : Int) ∧ ∀ c ∈ m, c.file_ = (i : Int) → r.1 ≤ c.from_ ∧ c.to ≤ (f.text.length : Int) - r.2.1)
    (s0 := ((f.text.length : Int), (f.text.length : Int), false, (0 : Int))) ⟨rfl, rfl, by dsimp only; omega, Int.le_refl _, by dsimp only; omega, Int.le_refl _, fun c hc => by cases hc⟩ (by
    rintro k ⟨fr, la, so, x1⟩ hk ⟨h1, h2, h3, h4, h5, h6, h7⟩
    dsimp only at h1 h2 h3 h4 h5 h6 h7
    subst h1
    subst h2
    unfold emendlaw20_EditsUntouched_b4
    have hlt : (k : Int) < (m.length : Int) := by omega
    have hc := hr _ (List.getElem_mem hk)
    have htk : ∀ c, c ∈ m.take (k + 1) → c ∈ m.take k ∨ c = m[k] := by
      intro c hc
      rw [List.take_add_one, List.getElem?_eq_getElem hk] at hc
      rcases List.mem_append.1 hc with h | h
      · exact .inl h
      · exact .inr (by simpa using h)
    left
    by_cases he : m[k].file_ = (i : Int)
    · have ht : m[k].to ≤ (f.text.length : Int) := by have := hc.2.2.2.2; rw [he, txt_at hf] at this; exact this
      have h0 := hc.2.2.1
      have h01 := hc.2.2.2.1
      refine ⟨((if m[k].from_ < fr then m[k].from_ else fr), (if ((f.text.length : Int) - m[k].to) < la then ((f.text.length : Int) - m[k].to) else la), true, (k : Int) + 1), ?_, fl_nat k, ?_, ?_, ?_, ?_, ?_, ?_⟩
      · simp only [chkB, dT hlt, if_true, ix_at hk, Option.bind_some, dT he, ix_of hf rfl]
        rw [pk (i64_small (by omega) (by omega)), pk (i64_small (by omega) (by omega))]
      · dsimp only; rw [any_take _ _ _ hk, dT he, Bool.or_true]
      · dsimp only; split <;> omega
      · dsimp only; split <;> omega
      · dsimp only; split <;> omega
      · dsimp only; split <;> omega
      · intro c hc hce
        dsimp only
        rcases htk c hc with h | h
        · have := h7 c h hce
          constructor
          · split <;> omega
          · split <;> omega
        · subst h
          constructor
          · split <;> omega
          · split <;> omega
    · refine ⟨(fr, la, (m.take k).any (fun c => decide (c.file_ = (i : Int))), (k : Int) + 1), ?_, fl_nat k, ?_, h3, h4, h5, h6, ?_⟩
      · simp only [chkB, dT hlt, if_true, ix_at hk, Option.bind_some, dF he]
        rw [if_neg (by simp), pk (i64_small (by omega) (by omega))]
      · dsimp only; rw [any_take _ _ _ hk, dF he, Bool.or_false]
      · intro c hc hce
        rcases htk c hc with h | h
        · exact h7 c h hce
        · subst h; exact (he hce).elim) (by
    rintro ⟨fr, la, so, x1⟩ ⟨h1, h2, h3, h4, h5, h6, h7⟩
    dsimp only at h1 h2 h3 h4 h5 h6 h7
    subst h1
    unfold emendlaw20_EditsUntouched_b4
    have hlt : ¬ (m.length : Int) < (m.length : Int) := by omega
    rw [List.take_length] at h2 h7
    exact ⟨_, if_neg (by rw [dF hlt]; simp), h2, h3, h4, h5, h6, h7⟩)
  obtain ⟨fr, la, so⟩ := r
  dsimp only at h2
  obtain ⟨rfl, h2⟩ := h2
  exact ⟨fr, la, h1, h2⟩
theorem unt_in (t : List Int) (i : Int) (hn : t.length ≤ 1000000) : loopS (emendlaw20_EditsUntouched_b6 t i) (false, (0 : Int)) = some (t.any fun x => decide (x = i)) := by
  obtain ⟨r, h1, h2⟩ := loopS_ix (f := emendlaw20_EditsUntouched_b6 t i) t.length (by omega) (fun k x => x = ((t.take k).any (fun x => decide (x = i)), (k : Int))) (fun r => r = t.any fun x => decide (x = i)) (s0 := (false, (0 : Int))) rfl (by
    rintro k x hk rfl
    unfold emendlaw20_EditsUntouched_b6
    have hlt : (k : Int) < (t.length : Int) := by omega
    left
    refine ⟨((t.take (k + 1)).any (fun x => decide (x = i)), (k : Int) + 1), ?_, by rw [fl_nat]⟩
    simp only [chkB, dT hlt, if_true, ix_at hk, Option.bind_some, orO_some]
    rw [pk (i64_small (by omega) (by omega)), any_take _ _ _ hk]) (by
    rintro x rfl
    unfold emendlaw20_EditsUntouched_b6
    have hlt : ¬ (t.length : Int) < (t.length : Int) := by omega
    rw [List.take_length]
    exact ⟨_, if_neg (by rw [dF hlt]; simp), rfl⟩)
  rw [h1, h2]
theorem unt_loop {fs : List GFile} {mm : List GEdit × Int} {aa : List GFile × Int} (ha : aa.1 = applyS fs mm.1) (hg : Good fs mm.1) (hfs : fs.length ≤ 1000000) (hn : mm.1.length ≤ 1000000) (ht : sumT mm.1 ≤ 1000000000) (hfl : ∀ f ∈ fs, f.text.length ≤ 1000000000) :
    loopS (emendlaw20_EditsUntouched_b2 fs aa mm (touchedS mm.1)) (0 : Int) = some (.inl ()) := by
  obtain ⟨r, h1, h2⟩ := loopS_ix (f := emendlaw20_EditsUntouched_b2 fs aa mm (touchedS mm.1)) fs.length (by omega) (fun k x => x = (k : Int)) (fun r => r = .inl ()) (s0 := (0 : Int)) rfl (by
    rintro k x hk rfl
    unfold emendlaw20_EditsUntouched_b2
    have hlt : (k : Int) < (fs.length : Int) := by omega
    have hf := List.getElem?_eq_getElem hk
    have hfb := hfl _ (List.getElem_mem hk)
    obtain ⟨fr, la, e1, b0, b1, b2, b3, b4⟩ := unt_inner fs mm k fs[k] hf hn hfb hg.right
    left
    refine ⟨(k : Int) + 1, ?_, fl_nat k⟩
    simp only [dT hlt, if_true, ix_at hk, Option.bind_some, e1]
    show ((loopS (emendlaw20_EditsUntouched_b6 (touchedS mm.1) (k : Int)) (false, (0 : Int))).bind fun w_2 => (emendlaw20_EditsUntouched_j5 fs aa (k : Int) fr la (mm.1.any fun c => decide (c.file_ = (k : Int)))) w_2) = _
    have htl := touchedS_len mm.1
    rw [unt_in _ _ (by omega)]
    have hsame : ((touchedS mm.1).any fun x => decide (x = (k : Int))) = (mm.1.any fun c => decide (c.file_ = (k : Int))) := by
      rw [Bool.eq_iff_iff, List.any_eq_true, List.any_eq_true]
      constructor
      · rintro ⟨x, hx, he⟩
        obtain ⟨c, hc, hce⟩ := touchedS_mem.1 hx
        exact ⟨c, hc, dT (hce.trans (of_decide_eq_true he))⟩
      · rintro ⟨c, hc, he⟩
        exact ⟨c.file_, touchedS_mem.2 ⟨c, hc, rfl⟩, he⟩
    rw [hsame]
    simp only [Option.bind_some]
    have hox : Sh.ix aa.1 (k : Int) = some (oneF mm.1 k fs[k]) := by rw [ix_nat, ha, applyS_at, hf]; rfl
    have hs := hg.seqd (k : Int)
    rw [txt_at hf] at hs
    have hon : ∀ c ∈ onF (k : Int) mm.1, fr ≤ c.from_ ∧ c.to ≤ (fs[k].text.length : Int) - la := fun c hc => by
      obtain ⟨h1, h2⟩ := List.mem_filter.1 hc
      exact b4 c h1 (of_decide_eq_true h2)
    have htake := spl_take _ _ 0 fr hs b0 b1 fun c hc => (hon c hc).1
    obtain ⟨p, hp⟩ := spl_suffix _ _ 0 ((fs[k].text.length : Int) - la) hs (by omega) fun c hc => (hon c hc).2
    have hsl := spl_len _ _ _ hs
    have hso := sumT_onF (k : Int) mm.1
    unfold emendlaw20_EditsUntouched_j5
    simp only [chkB, hox, ix_at hk, Option.bind_some]
    show (orO (!((mm.1.any fun c => decide (c.file_ = (k : Int))) == (mm.1.any fun c => decide (c.file_ = (k : Int))))) (some (!decide ((oneF mm.1 k fs[k]).path = fs[k].path)))).bind _ = _
    rw [dT (show (oneF mm.1 k fs[k]).path = fs[k].path from rfl)]
    simp only [beq_self_eq_true, Bool.not_true, orO_false, Option.bind_some]
    cases hany : (mm.1.any fun c => decide (c.file_ = (k : Int))) with
    | false =>
      have hnil : onF (k : Int) mm.1 = [] := List.filter_eq_nil_iff.2 fun c hc hh => by
        have h9 : (mm.1.any fun c => decide (c.file_ = (k : Int))) = true := List.any_eq_true.2 ⟨c, hc, hh⟩
        rw [hany] at h9; cases h9
      have ht : (oneF mm.1 k fs[k]).text = fs[k].text := by unfold oneF; rw [hnil]; rfl
      rw [dT ht]
      simp only [Bool.not_false, Bool.not_true, andO_true, Option.bind_some, Bool.false_eq_true, if_false, if_true]
      rw [pk (i64_small (by omega) (by omega))]
    | true =>
      have htx : (oneF mm.1 k fs[k]).text = spl fs[k].text 0 (onF (k : Int) mm.1) := rfl
      rw [htx]
      generalize hsp : spl fs[k].text 0 (onF (k : Int) mm.1) = sp at *
      have hpl : sp.length = p.length + la.toNat := by rw [hp, List.length_append, List.length_drop]; omega
      have htl2 := congrArg List.length htake
      rw [List.length_take, cut_len _ _ _ (Int.le_refl _) b0 b1] at htl2
      have q1 : ¬ (sp.length : Int) < fr := by omega
      have q2 : ¬ (sp.length : Int) < la := by omega
      have q3 : sp.take fr.toNat = fs[k].text.take fr.toNat := by
        have e2 : (fr - 0).toNat = fr.toNat := by omega
        rw [e2] at htake
        rw [htake]; unfold cut; simp
      have q4 : sp.drop ((sp.length : Int) - la).toNat = fs[k].text.drop ((fs[k].text.length : Int) - la).toNat := by
        rw [show ((sp.length : Int) - la).toNat = p.length by omega, hp, List.drop_left]
      simp only [Bool.not_true, andO_false, Option.bind_some, Bool.false_eq_true, if_false]
      rw [dF q1, dF q2]
      simp only [orO_false, Option.bind_some]
      rw [pk ⟨b0, by omega⟩, pk ⟨b0, b1⟩, dT q3]
      simp only [Bool.not_true, Option.bind_some, orO_false]
      rw [pk (i64_small (by omega) (by omega)), pk ⟨by omega, by omega⟩, pk (i64_small (by omega) (by omega)), pk ⟨by omega, by omega⟩, dT q4]
      simp only [Bool.not_true, Option.bind_some, Bool.false_eq_true, if_false]
      rw [pk (i64_small (by omega) (by omega))]) (by
    rintro x rfl
    unfold emendlaw20_EditsUntouched_b2
    have hlt : ¬ (fs.length : Int) < (fs.length : Int) := by omega
    exact ⟨_, if_neg (by rw [dF hlt]; simp), rfl⟩)
  rw [h1, h2]
theorem editsUntouched_law (fs : List GFile) (l : List GEdit) : emendlaw20_EditsUntouched fs l = some true := by
  unfold emendlaw20_EditsUntouched
  rw [awake_eq]
  obtain ⟨b, hb, hs⟩ := short_eq fs l
  rw [hb]
  simp only [Option.bind_some]
  cases b with
  | false => rfl
  | true =>
    have hs := hs rfl
    have h1 := hs.files; have h2 := hs.edits; have h3 := hs.sum
    have h4 := normS_len fs l
    have h6 := normS_sum fs l
    rw [if_neg (by simp), apply_eq fs l (by omega) (by omega) (by omega) hs.texts']
    simp only [Option.bind_some]
    by_cases hn0 : (normS fs l).2 = 0
    · have hg := normS_good hn0
      have ea : appliedS fs l = (applyS fs (normS fs l).1, 0) := if_pos hn0
      rw [ea]
      dsimp only
      have hal := applyS_len fs (normS fs l).1
      rw [dT rfl, dT (show ((applyS fs (normS fs l).1).length : Int) = (fs.length : Int) by omega)]
      simp only [Bool.not_true, orO_false, Option.bind_some, Bool.false_eq_true, if_false]
      rw [normal_eq fs l (by omega) (by omega)]
      simp only [Option.bind_some]
      rw [touched_eq _ (by omega)]
      simp only [Option.bind_some]
      rw [unt_loop rfl hg (by omega) (by omega) (by omega) hs.texts']
      rfl
    · have ea : appliedS fs l = ([], (normS fs l).2) := if_neg hn0
      rw [ea]
      dsimp only
      rw [dF hn0]; rfl
end Go.Sh
