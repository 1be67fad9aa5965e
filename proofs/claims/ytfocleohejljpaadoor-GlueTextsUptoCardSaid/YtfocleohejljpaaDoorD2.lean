/-
  The text and the string of tokens, by the program; GlueBack. No program in sight.
-/
import Derived.Test.YtfocleohejljpaaDoorD1
import Derived.Test.YtfocleohejljpaaDoorA12
import Derived.Lib.Replace
set_option linter.unusedVariables false
set_option linter.unusedSimpArgs false
namespace Go.Sh
open Go
/-! ### one byte replaced -/
def sub1 (c : UInt8) (new : List UInt8) (s : List UInt8) : List UInt8 := s.flatMap fun x => if x = c then new else [x]
theorem sub1_cons (c : UInt8) (new : List UInt8) (x : UInt8) (s : List UInt8) : sub1 c new (x :: s) = (if x = c then new else [x]) ++ sub1 c new s := by unfold sub1; rw [List.flatMap_cons]
theorem index_cons_ne (b c : UInt8) (l : List UInt8) (h : b ≠ c) : Lib.index (b :: l) [c] = if Lib.index l [c] == -1 then -1 else Lib.index l [c] + 1 := by
  have hp : ([c] : List UInt8).isPrefixOf (b :: l) = false := by simp [List.isPrefixOf, Ne.symm h]
  rw [Lib.index, hp]; simp
theorem replaceK_one (c : UInt8) (new : List UInt8) : ∀ s : List UInt8, Lib.replaceK [c] new (Lib.count s [c]) s = sub1 c new s
  | [] => by rw [Lib.count_one]; rfl
  | b :: l => by
    have ih := replaceK_one c new l
    rw [sub1_cons]
    by_cases h : b = c
    · subst h
      have hix : Lib.index (b :: l) [b] = ((0 : Nat) : Int) := by rw [Lib.index]; simp [List.isPrefixOf]
      rw [Lib.count_cons_eq, Nat.add_comm, Lib.replaceK_hit _ _ _ _ _ hix, if_pos rfl, ← ih]; rfl
    · rw [Lib.count_cons_ne b c l h, if_neg h, ← ih]
      cases hk : Lib.count l [c] with
      | zero => rfl
      | succ k =>
        obtain ⟨i, hi⟩ := Lib.index_of_count (s := l) (old := [c]) (by omega)
        have hix : Lib.index (b :: l) [c] = ((i + 1 : Nat) : Int) := by
          rw [index_cons_ne b c l h, hi, if_neg (by simp)]; rfl
        rw [Lib.replaceK_hit _ _ _ _ _ hix, Lib.replaceK_hit _ _ _ _ _ hi, List.take_succ_cons, show i + 1 + [c].length = (i + [c].length) + 1 from rfl, List.drop_succ_cons]
        first | done | rfl
theorem replaceAll_one (c : UInt8) (new s : List UInt8) (h : new ≠ [c]) : Lib.replaceAll s [c] new = sub1 c new s := by
  unfold Lib.replaceAll Lib.replace
  rw [if_neg (by intro e; exact h (beq_iff_eq.1 e).symm)]
  unfold Lib.replaceNum
  rw [if_pos (.inl (by decide)), replaceK_one]
def esc (s : List UInt8) : List UInt8 := s.flatMap fun x => if x = 92 ∨ x = 34 then [92, x] else [x]
theorem esc_cons (x : UInt8) (s : List UInt8) : esc (x :: s) = (if x = 92 ∨ x = 34 then [92, x] else [x]) ++ esc s := by unfold esc; rw [List.flatMap_cons]
theorem sub1_append (c : UInt8) (new s t : List UInt8) : sub1 c new (s ++ t) = sub1 c new s ++ sub1 c new t := by unfold sub1; rw [List.flatMap_append]
theorem esc_two : ∀ s : List UInt8, sub1 34 [92, 34] (sub1 92 [92, 92] s) = esc s
  | [] => rfl
  | x :: s => by
    rw [sub1_cons, sub1_append, esc_two s, esc_cons]
    congr 1
    by_cases h : x = 92
    · subst h; rfl
    · rw [if_neg h, sub1_cons]
      by_cases h2 : x = 34
      · subst h2; rfl
      · rw [if_neg h2, if_neg (by simp [h, h2])]; rfl
theorem sub1_len (c d e : UInt8) : ∀ s : List UInt8, (sub1 c [d, e] s).length ≤ 2 * s.length
  | [] => Nat.le_refl _
  | x :: s => by
    have := sub1_len c d e s
    rw [sub1_cons, List.length_append, List.length_cons]
    split <;> simp only [List.length_cons, List.length_nil] <;> omega
theorem esc_len : ∀ s : List UInt8, (esc s).length ≤ 2 * s.length
  | [] => Nat.le_refl _
  | x :: s => by
    have := esc_len s
    rw [esc_cons, List.length_append, List.length_cons]
    split <;> simp only [List.length_cons, List.length_nil] <;> omega
def escOf (t : GTok) : List UInt8 := if t.kind ≠ 4 ∧ t.kind ≠ 3 then t.text else esc t.text
theorem escOf_p {t : GTok} (h : t.kind ≠ 4 ∧ t.kind ≠ 3) : escOf t = t.text := if_pos h
theorem escOf_e {t : GTok} (h : ¬ (t.kind ≠ 4 ∧ t.kind ≠ 3)) : escOf t = esc t.text := if_neg h
theorem escOf_len (t : GTok) : (escOf t).length ≤ 2 * t.text.length := by
  unfold escOf; split
  · omega
  · exact esc_len _
theorem count_le_len (s : List UInt8) (c : UInt8) : Lib.count s [c] ≤ s.length := by rw [Lib.count_one]; exact List.count_le_length
theorem escaped_eq (t : GTok) (h : t.text.length ≤ 2000000000) : glue_escaped t = some (escOf t) := by
  unfold glue_escaped escOf
  have h1 := count_le_len t.text 92
  have h2 := count_le_len (sub1 92 [92, 92] t.text) 34
  have h3 := sub1_len 92 92 92 t.text
  rw [replaceAll_one 92 [92, 92] _ (by decide), replaceAll_one 34 [92, 34] _ (by decide), esc_two]
  rw [chkT (by simp only [List.length_cons, List.length_nil]; omega), chkT (by simp only [List.length_cons, List.length_nil]; omega)]
  by_cases hk : t.kind ≠ 4 ∧ t.kind ≠ 3
  · rw [if_pos hk]
    simp only [chkB, andB, orB, condAnd, condOr, iteB, neqB, nltB, nleB, m8_9, m8_10, m8_11, m8_12, m8_13, m8_32, m8_34, m8_35, m8_39, m8_40, m8_41, m8_42, m8_43, m8_44, m8_45, m8_46, m8_47, m8_48, m8_60, m8_62, m8_64, m8_65, m8_67, m8_69, m8_80, m8_90, m8_92, m8_95, m8_97, m8_101, m8_112, m8_122, m8, orO_some, andO_some, Option.bind_some, getD_drop]
    rw [iteT (by rw [eqF hk.1, eqF hk.2]; rfl)]
  · rw [if_neg hk]
    simp only [chkB, andB, orB, condAnd, condOr, iteB, neqB, nltB, nleB, m8_9, m8_10, m8_11, m8_12, m8_13, m8_32, m8_34, m8_35, m8_39, m8_40, m8_41, m8_42, m8_43, m8_44, m8_45, m8_46, m8_47, m8_48, m8_60, m8_62, m8_64, m8_65, m8_67, m8_69, m8_80, m8_90, m8_92, m8_95, m8_97, m8_101, m8_112, m8_122, m8, orO_some, andO_some, Option.bind_some, getD_drop]
    rw [iteF]
    rcases Decidable.not_and_iff_or_not.1 hk with h | h
    · rw [eqT (Decidable.not_not.1 h)]; rfl
    · rw [eqT (Decidable.not_not.1 h)]; simp
theorem printT_sub1 {l : List GTok} {x : GTok} (h : x ∈ l) : (printT [x]).length ≤ (printT l).length := by
  induction l with
  | nil => cases h
  | cons t r ih =>
    have e : printT (t :: r) = printOne t ++ printT r := by unfold printT; rw [List.flatMap_cons]
    have e2 : printT [t] = printOne t := by simp [printT]
    rw [e, List.length_append]
    rcases List.mem_cons.1 h with rfl | h
    · rw [e2]; omega
    · have := ih h; omega
/-! ### what is joined -/
def joinF (of : GTok → List UInt8) : Bool → Bool → List GTok → List UInt8
  | _, _, [] => []
  | bl, sm, t :: r => if t.kind = 7 then joinF of true sm r else (if (sm && (bl || t.blank)) = true then [32] else []) ++ (of t ++ joinF of false true r)
theorem joinF_len (of : GTok → List UInt8) (hof : ∀ t, (of t).length ≤ 2 * t.text.length) : ∀ (l : List GTok) (bl sm : Bool), (joinF of bl sm l).length ≤ 2 * (printT l).length + l.length
  | [], _, _ => Nat.zero_le _
  | t :: r, bl, sm => by
    have e : printT (t :: r) = printOne t ++ printT r := by unfold printT; rw [List.flatMap_cons]
    have h0 : t.text.length ≤ (printOne t).length := by unfold printOne; rw [List.length_append]; omega
    have h1 := hof t
    have h2 := joinF_len of hof r true sm
    have h3 := joinF_len of hof r false true
    rw [e, List.length_append, List.length_cons, joinF]
    split
    · omega
    · rw [List.length_append, List.length_append]
      split <;> simp only [List.length_cons, List.length_nil] <;> omega
/-- the loop, of what a function tells of each -/
def joinB (of : GTok → Option (List UInt8)) (l : List GTok) : Bool × Bool × Int × List UInt8 → Option (Step (Bool × Bool × Int × List UInt8) (List UInt8)) := fun x => match x with | (blank_1, some_1, t12_1, out_1) => if (decide (t12_1 < (l.length : Int))) = true then (ix l t12_1).bind fun y_1 => if (decide (y_1.kind = (7 : Int))) = true then chk (I64 (t12_1 + (1 : Int))) (some (.next (true, some_1, (t12_1 + (1 : Int)), out_1))) else (andO (some_1) ((orO (blank_1) (some (y_1.blank))).bind fun b_2 => some (b_2))).bind fun b_1 => if b_1 = true then chk (out_1.length + 1 ≤ 140737488355328) ((fun out_2 => (of y_1).bind fun r_1 => chk (out_2.length + r_1.length ≤ 140737488355328) (chk (I64 (t12_1 + (1 : Int))) (some (.next (false, true, (t12_1 + (1 : Int)), (out_2 ++ r_1)))))) (out_1 ++ [(32 : UInt8)])) else (fun out_2 => (of y_1).bind fun r_1 => chk (out_2.length + r_1.length ≤ 140737488355328) (chk (I64 (t12_1 + (1 : Int))) (some (.next (false, true, (t12_1 + (1 : Int)), (out_2 ++ r_1)))))) out_1 else some (.done out_1)
theorem join_loop (of : GTok → List UInt8) (ofO : GTok → Option (List UInt8)) (l : List GTok) (ho : ∀ t ∈ l, ofO t = some (of t)) (hl : l.length ≤ 9223372036854775806) (hb : (joinF of false false l).length ≤ 140737488355328) :
    loopS (joinB ofO l) (false, false, 0, []) = some (joinF of false false l) := by
  refine loopS_of (f := joinB ofO l) (fun x => ∃ k : Nat, x.2.2.1 = (k : Int) ∧ k ≤ l.length ∧ x.2.2.2.length + (joinF of x.1 x.2.1 (l.drop k)).length ≤ 140737488355328) (fun x => l.length - x.2.2.1.toNat) (fun x => x.2.2.2 ++ joinF of x.1 x.2.1 (l.drop x.2.2.1.toNat)) (s := (false, false, (0 : Int), ([] : List UInt8))) ⟨0, rfl, Nat.zero_le _, by simpa using hb⟩ (by simp only; omega) ?_
  rintro ⟨bl, sm, i, out⟩ ⟨k, e, hk, hbd⟩
  simp only at e hbd; subst e
  unfold joinB
  simp only [chkB, andB, orB, condAnd, condOr, iteB, neqB, nltB, nleB, m8_9, m8_10, m8_11, m8_12, m8_13, m8_32, m8_34, m8_35, m8_39, m8_40, m8_41, m8_42, m8_43, m8_44, m8_45, m8_46, m8_47, m8_48, m8_60, m8_62, m8_64, m8_65, m8_67, m8_69, m8_80, m8_90, m8_92, m8_95, m8_97, m8_101, m8_112, m8_122, m8, orO_some, andO_some, Option.bind_some, getD_drop, Int.toNat_natCast]
  by_cases hlt : k < l.length
  · left
    have hd : l.drop k = l[k] :: l.drop (k + 1) := List.drop_eq_getElem_cons hlt
    rw [hd] at hbd ⊢
    rw [iteT (ltT (by omega)), ix_at hlt, Option.bind_some]
    have e1 : ((k : Int) + 1) = ((k + 1 : Nat) : Int) := rfl
    by_cases h7 : l[k].kind = 7
    · rw [joinF, if_pos h7] at hbd
      refine ⟨(true, sm, ((k + 1 : Nat) : Int), out), ?_, ⟨k + 1, rfl, by omega, hbd⟩, by simp only; omega, ?_⟩
      · rw [iteT (eqT h7), pk (by omega)]; rfl
      · simp only [Int.toNat_natCast]; rw [joinF, if_pos h7]
    · rw [joinF, if_neg h7, List.length_append, List.length_append] at hbd
      rw [iteF (eqF h7)]
      have hsm : cond sm (some (bl || l[k].blank)) (some false) = some (sm && (bl || l[k].blank)) := by cases sm <;> rfl
      have ho2 := ho l[k] (List.getElem_mem hlt)
      by_cases hc : (sm && (bl || l[k].blank)) = true
      · rw [if_pos hc] at hbd
        simp only [List.length_cons, List.length_nil] at hbd
        refine ⟨(false, true, ((k + 1 : Nat) : Int), (out ++ [32]) ++ of l[k]), ?_, ⟨k + 1, rfl, by omega, ?_⟩, by simp only; omega, ?_⟩
        · rw [hc, iteT rfl, pk (by omega), ho2, Option.bind_some, pk (by simp only [List.length_append, List.length_cons, List.length_nil]; omega), pk (by omega)]; rfl
        · simp only [List.length_append, List.length_cons, List.length_nil]; omega
        · simp only [Int.toNat_natCast]; rw [joinF, if_neg h7, if_pos hc]; simp only [List.append_assoc]
      · rw [if_neg hc] at hbd
        simp only [List.length_nil] at hbd
        refine ⟨(false, true, ((k + 1 : Nat) : Int), out ++ of l[k]), ?_, ⟨k + 1, rfl, by omega, ?_⟩, by simp only; omega, ?_⟩
        · rw [Bool.eq_false_iff.2 hc, iteF rfl, ho2, Option.bind_some, pk (by omega), pk (by omega)]; rfl
        · simp only [List.length_append]; omega
        · simp only [Int.toNat_natCast]; rw [joinF, if_neg h7, if_neg hc]; simp only [List.append_assoc, List.nil_append]
  · right
    rw [iteF (ltF (by omega)), List.drop_of_length_le (by omega)]; simp [joinF]
theorem text_eq (l : List GTok) (hl : l.length ≤ 9223372036854775806) (hb : (joinF GTok.text false false l).length ≤ 140737488355328) : glue_Text l = some (joinF GTok.text false false l) := by
  unfold glue_Text glue_joined__glue_Text_c1
  rw [show glue_joined__glue_Text_c1_b2 l = joinB glue_Text_c1 l from rfl, join_loop GTok.text glue_Text_c1 l (fun t _ => rfl) hl hb]; rfl
theorem string_eq (l : List GTok) (hl : l.length ≤ 9223372036854775806) (ht : ∀ t ∈ l, t.text.length ≤ 2000000000) (hb : (joinF escOf false false l).length ≤ 140737488355328) : glue_String l = some ⟨4, 34 :: (joinF escOf false false l ++ [34]), 0, 0, 0, false⟩ := by
  unfold glue_String glue_joined__glue_escaped
  rw [show glue_joined__glue_escaped_b2 l = joinB glue_escaped l from rfl, join_loop escOf _ l (fun t h => escaped_eq t (ht t h)) hl hb]
  simp only [Option.bind_some, glue_joined__glue_escaped_j1]
  rw [chkT (by simp only [List.length_cons, List.length_nil]; omega), chkT (by simp only [List.length_append, List.length_cons, List.length_nil]; omega)]; rfl
/-! ### what a string says -/
theorem unq_plain (X : List UInt8) : ∀ w : List UInt8, (∀ c ∈ w, c ≠ 34 ∧ c ≠ 92) → unq (w ++ X) = (unq X).map (w ++ ·)
  | [], _ => by cases h : unq X <;> simp [h]
  | c :: w, h => by
    obtain ⟨h1, h2⟩ := h c (by simp)
    rw [List.cons_append, unq_cons, if_neg h1, if_neg h2, unq_plain X w (fun d hd => h d (by simp [hd]))]
    cases unq X <;> rfl
theorem unq_esc (X : List UInt8) : ∀ w : List UInt8, unq (esc w ++ X) = (unq X).map (w ++ ·)
  | [] => by cases h : unq X <;> simp [esc, h]
  | c :: w => by
    rw [esc_cons]
    by_cases h : c = 92 ∨ c = 34
    · rw [if_pos h]
      show unq (92 :: c :: (esc w ++ X)) = _
      rw [unq_cons, if_neg (by decide), if_pos rfl]
      simp only [unq_esc X w]
      cases unq X <;> rfl
    · rw [if_neg h]
      show unq (c :: (esc w ++ X)) = _
      rw [unq_cons, if_neg (fun e => h (.inr e)), if_neg (fun e => h (.inl e)), unq_esc X w]
      cases unq X <;> rfl
theorem unq_join : ∀ (l : List GTok) (bl sm : Bool), (∀ t ∈ l, PlainTok t.kind t.text ∧ t.kind ≠ 6) → unq (joinF escOf bl sm l) = some (joinF GTok.text bl sm l)
  | [], _, _, _ => rfl
  | t :: r, bl, sm, h => by
    obtain ⟨h1, h6⟩ := h t (by simp)
    have hr : ∀ x ∈ r, PlainTok x.kind x.text ∧ x.kind ≠ 6 := fun x hx => h x (by simp [hx])
    rw [joinF, joinF]
    by_cases h7 : t.kind = 7
    · rw [if_pos h7, if_pos h7, unq_join r _ _ hr]
    · rw [if_neg h7, if_neg h7]
      have key : unq (escOf t ++ joinF escOf false true r) = some (t.text ++ joinF GTok.text false true r) := by
        by_cases hk : t.kind ≠ 4 ∧ t.kind ≠ 3
        · rw [escOf_p hk, unq_plain _ _ ((h1 h6 h7).2 hk.2 hk.1), unq_join r _ _ hr]; rfl
        · rw [escOf_e hk, unq_esc, unq_join r _ _ hr]; rfl
      by_cases hc : (sm && (bl || t.blank)) = true
      · rw [if_pos hc]
        show unq (32 :: (escOf t ++ joinF escOf false true r)) = _
        rw [unq_cons, if_neg (by decide), if_neg (by decide), key]; rfl
      · rw [if_neg hc]; exact key
theorem quo_plain (X : List UInt8) : ∀ w : List UInt8, (∀ c ∈ w, c ≠ 34 ∧ c ≠ 92 ∧ c ≠ 10) → quoTail 34 (w ++ X) = (quoTail 34 X).map (· + w.length)
  | [], _ => by cases h : quoTail 34 X <;> simp [h]
  | c :: w, h => by
    obtain ⟨h1, h2, h3⟩ := h c (by simp)
    rw [List.cons_append, quoTail_cons, if_neg h1, if_neg h3, if_neg h2, quo_plain X w (fun d hd => h d (by simp [hd]))]
    cases quoTail 34 X with
    | none => rfl
    | some n => simp only [Option.map_some, List.length_cons]; congr 1
theorem quo_esc (X : List UInt8) : ∀ w : List UInt8, (∀ c ∈ w, c ≠ 10) → quoTail 34 (esc w ++ X) = (quoTail 34 X).map (· + (esc w).length)
  | [], _ => by cases h : quoTail 34 X <;> simp [esc, h]
  | c :: w, h => by
    have h1 := h c (by simp)
    have ih := quo_esc X w (fun d hd => h d (by simp [hd]))
    rw [esc_cons]
    by_cases hc : c = 92 ∨ c = 34
    · rw [if_pos hc]
      show quoTail 34 (92 :: c :: (esc w ++ X)) = _
      rw [quoTail_cons, if_neg (by decide), if_neg (by decide), if_pos rfl, if_neg (by rw [List.head?_cons]; rintro (h | h); cases h; injection h with h; exact h1 h), List.drop_succ_cons, List.drop_zero, ih]
      cases quoTail 34 X with
      | none => rfl
      | some n => simp only [Option.map_some, List.length_append, List.length_cons, List.length_nil]; congr 1; omega
    · rw [if_neg hc]
      show quoTail 34 (c :: (esc w ++ X)) = _
      rw [quoTail_cons, if_neg (fun e => hc (.inr e)), if_neg h1, if_neg (fun e => hc (.inl e)), ih]
      cases quoTail 34 X with
      | none => rfl
      | some n => simp only [Option.map_some, List.length_append, List.length_cons, List.length_nil]; congr 1; omega
theorem quo_join (X : List UInt8) : ∀ (l : List GTok) (bl sm : Bool), (∀ t ∈ l, PlainTok t.kind t.text ∧ t.kind ≠ 6) → quoTail 34 (joinF escOf bl sm l ++ X) = (quoTail 34 X).map (· + (joinF escOf bl sm l).length)
  | [], _, _, _ => by cases h : quoTail 34 X <;> simp [joinF, h]
  | t :: r, bl, sm, h => by
    obtain ⟨h1, h6⟩ := h t (by simp)
    have hr : ∀ x ∈ r, PlainTok x.kind x.text ∧ x.kind ≠ 6 := fun x hx => h x (by simp [hx])
    rw [joinF]
    by_cases h7 : t.kind = 7
    · rw [if_pos h7, quo_join X r _ _ hr]
    · rw [if_neg h7]
      obtain ⟨p1, p2⟩ := h1 h6 h7
      have key : quoTail 34 (escOf t ++ (joinF escOf false true r ++ X)) = (quoTail 34 X).map (· + ((escOf t).length + (joinF escOf false true r).length)) := by
        by_cases hk : t.kind ≠ 4 ∧ t.kind ≠ 3
        · rw [escOf_p hk, quo_plain _ _ (fun c hc => ⟨(p2 hk.2 hk.1 c hc).1, (p2 hk.2 hk.1 c hc).2, p1 c hc⟩), quo_join X r _ _ hr]
          cases quoTail 34 X with
          | none => rfl
          | some n => simp only [Option.map_some]; congr 1; omega
        · rw [escOf_e hk, quo_esc _ _ p1, quo_join X r _ _ hr]
          cases quoTail 34 X with
          | none => rfl
          | some n => simp only [Option.map_some]; congr 1; omega
      by_cases hc : (sm && (bl || t.blank)) = true
      · rw [if_pos hc]
        show quoTail 34 (32 :: ((escOf t ++ joinF escOf false true r) ++ X)) = _
        rw [quoTail_cons, if_neg (by decide), if_neg (by decide), if_neg (by decide), List.append_assoc, key]
        cases quoTail 34 X with
        | none => rfl
        | some n => simp only [Option.map_some, List.length_append, List.length_cons, List.length_nil]; congr 1; omega
      · rw [if_neg hc, List.nil_append, List.append_assoc, key]
        simp only [List.length_append]
theorem esc_no10 : ∀ w : List UInt8, (∀ c ∈ w, c ≠ 10) → ∀ c ∈ esc w, c ≠ 10
  | [], _ => fun c hc => by cases hc
  | x :: w, h => by
    intro c hc
    rw [esc_cons] at hc
    rcases List.mem_append.1 hc with hc | hc
    · split at hc
      · simp only [List.mem_cons, List.not_mem_nil, or_false] at hc
        rcases hc with rfl | rfl
        · decide
        · exact h _ (by simp)
      · rw [List.mem_singleton.1 hc]; exact h _ (by simp)
    · exact esc_no10 w (fun d hd => h d (by simp [hd])) c hc
theorem join_no10 : ∀ (l : List GTok) (bl sm : Bool), (∀ t ∈ l, PlainTok t.kind t.text ∧ t.kind ≠ 6) → ∀ c ∈ joinF escOf bl sm l, c ≠ 10
  | [], _, _, _ => fun c hc => by cases hc
  | t :: r, bl, sm, h => by
    obtain ⟨h1, h6⟩ := h t (by simp)
    have hr : ∀ x ∈ r, PlainTok x.kind x.text ∧ x.kind ≠ 6 := fun x hx => h x (by simp [hx])
    rw [joinF]
    by_cases h7 : t.kind = 7
    · rw [if_pos h7]; exact join_no10 r _ _ hr
    · rw [if_neg h7]
      obtain ⟨p1, p2⟩ := h1 h6 h7
      intro c hc
      rcases List.mem_append.1 hc with hc | hc
      · split at hc
        · rw [List.mem_singleton.1 hc]; decide
        · cases hc
      rcases List.mem_append.1 hc with hc | hc
      · unfold escOf at hc
        split at hc
        · exact p1 c hc
        · exact esc_no10 _ p1 c hc
      · exact join_no10 r _ _ hr c hc
theorem has2_noB {a b : UInt8} : ∀ t : List UInt8, (∀ c ∈ t, c ≠ b) → has2 a b t = false
  | [], _ => rfl
  | [c], _ => rfl
  | c :: d :: r, h => by
    rw [has2, has2_noB (d :: r) (fun x hx => h x (by simp at hx ⊢; exact .inr hx)), Bool.or_false, Bool.and_eq_false_iff]
    right; simpa using h d (by simp)
/-- a text between quotes is one token -/
theorem one_quoted (E : List UInt8) (h10 : ∀ c ∈ E, c ≠ 10) (hq : quoTail 34 (E ++ [34]) = some (E.length + 1)) : ∃ t : GTok, oneOf (34 :: (E ++ [34])) = (t, true) ∧ t.kind = 4 := by
  obtain ⟨s, hs⟩ : ∃ s, s = (34 : UInt8) :: (E ++ [34]) := ⟨_, rfl⟩
  have hp : (charsAt 0 s).map GChar.b = s := by
    refine charsAt_has2 s 0 (has2_noB s ?_)
    intro c hc
    rw [hs] at hc
    simp only [List.mem_cons, List.mem_append, List.not_mem_nil, or_false] at hc
    rcases hc with rfl | hc | rfl
    · decide
    · exact h10 c hc
    · decide
  have hn : nextTok s = (4, s.length) := by
    have e : quoLen 34 s = s.length := by
      rw [hs]; simp only [quoLen, if_true]
      rw [if_neg (by simp), hq]; simp
    unfold nextTok
    rw [e, hs, if_neg (by simp), if_neg (by simp [wordLen, isLetter]), if_neg (by simp [numLen, isDigit]), if_pos (by simp)]
  have ht : toks 0 false s = [⟨4, s, 0, 0 + s.length, false⟩] := by
    rw [toks_tok (by rw [hs]; simp) (by rw [hs]; simp [blankLen, isWS]), hn]
    simp only [List.take_length, List.drop_length, toks_nil]
  have hone : tokens 0 s = [tokOf 0 (charsAt 0 s) ⟨4, s, 0, 0 + s.length, false⟩] := by
    unfold tokens; rw [hp, ht]; rfl
  rw [← hs]
  refine ⟨tokOf 0 (charsAt 0 s) ⟨4, s, 0, 0 + s.length, false⟩, ?_, ?_⟩
  · rw [oneOf_one hone, if_neg (by simp [tokOf])]
  · rfl
theorem glueBack_law (t : List UInt8) : emendlaw07_GlueBack t = some true := by
  unfold emendlaw07_GlueBack
  rw [awake7, Option.bind_some]
  by_cases hl : 500 < t.length
  · rw [if_pos (decide_eq_true (by omega))]
  have h1 := tokens_len 0 t
  have h2 := tokens_room 0 t
  rw [if_neg (by rw [decide_eq_false (by omega)]; simp), tokens_eq 0 t (by omega), Option.bind_some]
  have hloop := loopS_find (f := emendlaw07_GlueBack_b2 true (tokens 0 t)) (tokens 0 t) (fun x => x.kind == 6) true (by omega) (fun k hk => by
      unfold emendlaw07_GlueBack_b2
      simp only [ix_at hk, chkB, andB, orB, condAnd, condOr, iteB, neqB, nltB, nleB, m8_9, m8_10, m8_11, m8_12, m8_13, m8_32, m8_34, m8_35, m8_39, m8_40, m8_41, m8_42, m8_43, m8_44, m8_45, m8_46, m8_47, m8_48, m8_60, m8_62, m8_64, m8_65, m8_67, m8_69, m8_80, m8_90, m8_92, m8_95, m8_97, m8_101, m8_112, m8_122, m8, orO_some, andO_some, Option.bind_some, getD_drop]
      rw [iteT (ltT (by omega))]
      by_cases h : (tokens 0 t)[k].kind = 6
      · rw [iteT (eqT h), iteT (eqT h)]
      · rw [iteF (eqF h), iteF (eqF h), pk (by omega)]; rfl) (by
      unfold emendlaw07_GlueBack_b2
      rw [if_neg (by simp)])
  rw [hloop, Option.bind_some]
  by_cases hany : (tokens 0 t).any (fun x => x.kind == 6) = true
  · rw [if_pos hany]
  rw [if_neg hany]
  show emendlaw07_GlueBack_j1 true (tokens 0 t) () = some true
  unfold emendlaw07_GlueBack_j1
  have hP : ∀ x ∈ tokens 0 t, PlainTok x.kind x.text ∧ x.kind ≠ 6 := by
    intro x hx
    refine ⟨tokens_plain 0 t x hx, fun h => hany (List.any_eq_true.2 ⟨x, hx, by simp [h]⟩)⟩
  have ht : ∀ x ∈ tokens 0 t, x.text.length ≤ 2000000000 := by
    intro x hx
    have e1 : (printT [x]).length ≤ (printT (tokens 0 t)).length := printT_sub1 hx
    have e2 : x.text.length ≤ (printT [x]).length := by simp [printT, printOne]
    omega
  generalize tokens 0 t = l at *
  have b1 := joinF_len escOf escOf_len l false false
  have b2 := joinF_len GTok.text (fun t => by omega) l false false
  obtain ⟨E, hE⟩ : ∃ E, E = joinF escOf false false l := ⟨_, rfl⟩
  have hq : quoTail 34 (E ++ [34]) = some (E.length + 1) := by
    rw [hE, quo_join [34] l false false hP]; simp [quoTail]; omega
  obtain ⟨o, ho, hk⟩ := one_quoted E (by rw [hE]; exact join_no10 l false false hP) hq
  rw [string_eq l (by omega) ht (by omega), Option.bind_some, ← hE]
  simp only
  have hEl : (34 :: (E ++ [34]) : List UInt8).length = E.length + 2 := by simp
  have hu : unquote (34 :: (E ++ [34])) = (joinF GTok.text false false l, true) := by
    unfold unquote
    have hlast : (34 :: (E ++ [34]) : List UInt8)[(34 :: (E ++ [34]) : List UInt8).length - 1]? = some 34 := by
      rw [← List.getLast?_eq_getElem?, ← List.cons_append, List.getLast?_append]; rfl
    rw [if_pos ⟨by omega, rfl, hlast⟩, hEl]
    have : ((34 :: (E ++ [34]) : List UInt8).drop 1).take (E.length + 2 - 2) = E := by
      rw [List.drop_succ_cons, List.drop_zero, Nat.add_sub_cancel, List.take_left']; rfl
    rw [this, hE, unq_join l false false hP]
  rw [unquote_eq _ (by rw [hEl, hE]; omega), Option.bind_some, hu, text_eq l (by omega) (by omega), Option.bind_some, pone_eq _ (by rw [hEl, hE]; omega), Option.bind_some, ho]
  simp [andO, hk]
end Go.Sh
