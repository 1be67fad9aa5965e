/-
  Part of the proof of Strings.
-/
import Derived.Test.YtgmpeddopfnioaaGreatDoorQsA7sx
import Derived.Lib.Replace
import Derived.Test.YtgmpeddopfnioaaGreatDoorQsPlx
import Derived.KernelRfl
import Derived.Test.YtgmpeddopfnioaaGreatDoorQsSox

set_option linter.unusedVariables false
set_option linter.unusedSimpArgs false
namespace Go.Sh
open Go
def unq : List UInt8 → Option (List UInt8)
 | [] => some []
 | [c] => if c = 34 ∨ c = 92 then none else some [c]
 | c :: d :: r => if c = 34 then none else if c = 92 then (unq r).map (d :: ·) else (unq (d :: r)).map (c :: ·)
theorem unq_cons (c : UInt8) (r : List UInt8) : unq (c :: r) = if c = 34 then none else if c = 92 then (match r with | [] => none | d :: r2 => (unq r2).map (d :: ·)) else (unq r).map (c :: ·) := by
 cases r with
 | nil =>
  simp only [unq]
  by_cases h1 : c = 34
  ·rw [if_pos (.inl h1), if_pos h1]
  ·by_cases h2 : c = 92
   ·rw [if_pos (.inr h2), if_neg h1, if_pos h2]
   ·rw [if_neg (by simp [h1, h2]), if_neg h1, if_neg h2]; rfl
 | cons d r => simp only [unq]
def unquote (s : List UInt8) : List UInt8 × Bool :=
 if 2 ≤ s.length ∧ s[0]? = some 34 ∧ s[s.length - 1]? = some 34 then (match unq ((s.drop 1).take (s.length - 2)) with | none => ([], false) | some l => (l, true)) else ([], false)
def unqR (out : List UInt8) (o : Option (List UInt8)) : Sum (List UInt8) (List UInt8 × Bool) := match o with | none => .inr ([], false) | some l => .inl (out ++ l)
theorem unqloop (m : List UInt8) (hm : m.length ≤ 2000000) : loopS glue_Unquote_b2 (m, []) = some (unqR [] (unq m)) := by
 refine loopS_of (f := glue_Unquote_b2) (fun x => x.1.length ≤ 2000000 ∧ x.2.length + x.1.length ≤ 2000000) (fun x => x.1.length) (fun x => unqR x.2 (unq x.1)) (s := (m, ([] : List UInt8))) ⟨hm, by simpa using hm⟩ (by simp only; omega) ?_
 rintro ⟨s, out⟩ ⟨h1, h2⟩
 simp only at h1 h2
 unfold glue_Unquote_b2
 simp only [chkB, andB, orB, condAnd, condOr, iteB, neqB, nltB, nleB, m8_9, m8_10, m8_11, m8_12, m8_13, m8_32, m8_34, m8_35, m8_39, m8_40, m8_41, m8_42, m8_43, m8_44, m8_45, m8_46, m8_47, m8_48, m8_60, m8_62, m8_64, m8_65, m8_67, m8_69, m8_80, m8_90, m8_92, m8_95, m8_97, m8_101, m8_112, m8_122, m8, orO_some, andO_some, Option.bind_some, getD_drop]
 cases s with
 | nil => right; rw [iteF (by rw [eqT rfl]; rfl)]; simp [unqR, unq]
 | cons c r =>
  have x0 : ix (c :: r) 0 = some c := rfl
  have hne : (!((c :: r) == ([] : List UInt8))) = true := rfl
  simp only [List.length_cons] at h1 h2
  rw [iteT (by rw [eqF (by simp)]; rfl), x0]
  simp only [Option.bind_some, unq_cons]
  by_cases hq : c = 34
  ·right; rw [iteT (eqT hq), if_pos hq]; rfl
  rw [iteF (eqF hq), if_neg hq]
  by_cases hb : c = 92
  ·rw [iteT (eqT hb), if_pos hb, pk (by simp only [List.length_cons]; omega)]
   cases r with
   | nil => right; rw [iteT (eqT (show List.drop (Int.toNat 1) [c] = [] from rfl))]; rfl
   | cons d r2 =>
    left
    refine ⟨(r2, out ++ [d]), ?_, ⟨by simp only [List.length_cons] at h1 ⊢; omega, by simp only [List.length_append, List.length_cons, List.length_nil] at h2 ⊢; omega⟩, by simp only [List.length_cons]; omega, ?_⟩
    ·rw [iteF (eqF (by simp))]
     unfold glue_Unquote_j3
     show (ix (d :: r2) 0).bind _ = _
     rw [show ix (d :: r2) 0 = some d from rfl, Option.bind_some, chkT (by omega), chkT (by simp only [Int.toNat_one, List.drop_succ_cons, List.drop_zero, List.length_cons]; omega)]; rfl
    ·simp only
     cases unq r2 with
     | none => rfl
     | some l => show Sum.inl (out ++ [d] ++ l) = Sum.inl (out ++ d :: l); simp
  ·left
   refine ⟨(r, out ++ [c]), ?_, ⟨by simp only; omega, by simp only [List.length_append, List.length_cons, List.length_nil]; omega⟩, by simp only [List.length_cons]; omega, ?_⟩
   ·rw [iteF (eqF hb)]
    unfold glue_Unquote_j3
    rw [x0, Option.bind_some, chkT (by omega), chkT (by simp only [List.length_cons]; omega)]; rfl
   ·simp only
    rw [if_neg hb]
    cases unq r with
    | none => rfl
    | some l => show Sum.inl (out ++ [c] ++ l) = Sum.inl (out ++ c :: l); simp
theorem unquote_eq (s : List UInt8) (h : s.length ≤ 2000000) : glue_Unquote s = some (unquote s) := by
 unfold glue_Unquote unquote
 simp only [chkB, andB, orB, condAnd, condOr, iteB, neqB, nltB, nleB, m8_9, m8_10, m8_11, m8_12, m8_13, m8_32, m8_34, m8_35, m8_39, m8_40, m8_41, m8_42, m8_43, m8_44, m8_45, m8_46, m8_47, m8_48, m8_60, m8_62, m8_64, m8_65, m8_67, m8_69, m8_80, m8_90, m8_92, m8_95, m8_97, m8_101, m8_112, m8_122, m8, orO_some, andO_some, Option.bind_some, getD_drop]
 by_cases h2 : 2 ≤ s.length
 ·have g0 : s[0]? = some s[0] := List.getElem?_eq_getElem (by omega)
  have g1 : s[s.length - 1]? = some s[s.length - 1] := List.getElem?_eq_getElem (by omega)
  rw [ltF (by omega), ix_of g0 (by omega), Option.bind_some, pk (by omega), ix_of g1 (by omega)]
  simp only [Option.bind_some, chkB, andB, orB, condAnd, condOr, iteB, neqB, nltB, nleB, m8_9, m8_10, m8_11, m8_12, m8_13, m8_32, m8_34, m8_35, m8_39, m8_40, m8_41, m8_42, m8_43, m8_44, m8_45, m8_46, m8_47, m8_48, m8_60, m8_62, m8_64, m8_65, m8_67, m8_69, m8_80, m8_90, m8_92, m8_95, m8_97, m8_101, m8_112, m8_122, m8, orO_some, andO_some, Option.bind_some, getD_drop, cond_false, Bool.false_or, g0, g1]
  by_cases hq : s[0] = 34 ∧ s[s.length - 1] = 34
  ·rw [iteF (by rw [eqT hq.1, eqT hq.2]; rfl), pk (by omega), pk (by omega), if_pos ⟨h2, by rw [hq.1], by rw [hq.2]⟩]
   rw [show ((s.length : Int) - 1).toNat - (1 : Int).toNat = s.length - 2 by omega, Int.toNat_one, unqloop _ (by rw [List.length_take, List.length_drop]; omega), Option.bind_some]
   cases unq ((s.drop 1).take (s.length - 2)) <;> rfl
  ·rw [if_neg (by rintro ⟨_, h3, h4⟩; injection h3 with h3; injection h4 with h4; exact hq ⟨h3, h4⟩), iteT]
   rcases Decidable.not_and_iff_or_not.1 hq with h | h
   ·rw [eqF h]; rfl
   ·rw [eqF h]; simp
 ·rw [if_neg (fun h => h2 h.1), ltT (by omega)]
  simp only [cond_true, Option.bind_some, chkB, andB, orB, condAnd, condOr, iteB, neqB, nltB, nleB, m8_9, m8_10, m8_11, m8_12, m8_13, m8_32, m8_34, m8_35, m8_39, m8_40, m8_41, m8_42, m8_43, m8_44, m8_45, m8_46, m8_47, m8_48, m8_60, m8_62, m8_64, m8_65, m8_67, m8_69, m8_80, m8_90, m8_92, m8_95, m8_97, m8_101, m8_112, m8_122, m8, orO_some, andO_some, Option.bind_some, getD_drop]
end Go.Sh
set_option linter.unusedVariables false
set_option linter.unusedSimpArgs false
namespace Go.Sh
open Go
def sub1 (c : UInt8) (new : List UInt8) (s : List UInt8) : List UInt8 := s.flatMap fun x => if x = c then new else [x]
theorem sub1_cons (c : UInt8) (new : List UInt8) (x : UInt8) (s : List UInt8) : sub1 c new (x :: s) = (if x = c then new else [x]) ++ sub1 c new s := by unfold sub1; rw [List.flatMap_cons]
theorem index_cons_ne (b c : UInt8) (l : List UInt8) (h : b ≠ c) : Lib.index (b :: l) [c] = if Lib.index l [c] == -1 then -1 else Lib.index l [c] + 1 := by
 have hp : ([c] : List UInt8).isPrefixOf (b :: l) = false := by simp [List.isPrefixOf, Ne.symm h]
 rw [Lib.index, hp]; simp
theorem replaceK_one (c : UInt8) (new : List UInt8) : ∀ s : List UInt8, Lib.replaceK [c] new (Lib.count s [c]) s = sub1 c new s
 | [] => by rw [Lib.count_one]; rfl
 | b :: l => by
  have ih := replaceK_one c new l
  rw [sub1_cons]
  by_cases h : b = c
  ·subst h
   have hix : Lib.index (b :: l) [b] = ((0 : Nat) : Int) := by rw [Lib.index]; simp [List.isPrefixOf]
   rw [Lib.count_cons_eq, Nat.add_comm, Lib.replaceK_hit _ _ _ _ _ hix, if_pos rfl, ← ih]; rfl
  ·rw [Lib.count_cons_ne b c l h, if_neg h, ← ih]
   cases hk : Lib.count l [c] with
   | zero => rfl
   | succ k =>
    obtain ⟨i, hi⟩ := Lib.index_of_count (s := l) (old := [c]) (by omega)
    have hix : Lib.index (b :: l) [c] = ((i + 1 : Nat) : Int) := by
     rw [index_cons_ne b c l h, hi, if_neg (by simp)]; rfl
    rw [Lib.replaceK_hit _ _ _ _ _ hix, Lib.replaceK_hit _ _ _ _ _ hi, List.take_succ_cons, show i + 1 + [c].length = (i + [c].length) + 1 from rfl, List.drop_succ_cons]
    first | done | rfl
theorem replaceAll_one (c : UInt8) (new s : List UInt8) (h : new ≠ [c]) : Lib.replaceAll s [c] new = sub1 c new s := by
  unfold Lib.replaceAll Lib.replace
  rw [if_neg (by intro e; exact h (beq_iff_eq.1 e).symm)]
  unfold Lib.replaceNum
  rw [if_pos (.inl (by decide)), replaceK_one]
def esc (s : List UInt8) : List UInt8 := s.flatMap fun x => if x = 92 ∨ x = 34 then [92, x] else [x]
theorem esc_cons (x : UInt8) (s : List UInt8) : esc (x :: s) = (if x = 92 ∨ x = 34 then [92, x] else [x]) ++ esc s := by unfold esc; rw [List.flatMap_cons]
theorem sub1_append (c : UInt8) (new s t : List UInt8) : sub1 c new (s ++ t) = sub1 c new s ++ sub1 c new t := by unfold sub1; rw [List.flatMap_append]
theorem esc_two : ∀ s : List UInt8, sub1 34 [92, 34] (sub1 92 [92, 92] s) = esc s
 | [] => rfl
 | x :: s => by
  rw [sub1_cons, sub1_append, esc_two s, esc_cons]
  congr 1
  by_cases h : x = 92
  ·subst h; rfl
  ·rw [if_neg h, sub1_cons]
   by_cases h2 : x = 34
   ·subst h2; rfl
   ·rw [if_neg h2, if_neg (by simp [h, h2])]; rfl
theorem sub1_len (c d e : UInt8) : ∀ s : List UInt8, (sub1 c [d, e] s).length ≤ 2 * s.length
 | [] => Nat.le_refl _
 | x :: s => by
  have := sub1_len c d e s
  rw [sub1_cons, List.length_append, List.length_cons]
  split <;> simp only [List.length_cons, List.length_nil] <;> omega
theorem esc_len : ∀ s : List UInt8, (esc s).length ≤ 2 * s.length
 | [] => Nat.le_refl _
 | x :: s => by
  have := esc_len s
  rw [esc_cons, List.length_append, List.length_cons]
  split <;> simp only [List.length_cons, List.length_nil] <;> omega
def escOf (t : GTok) : List UInt8 := if t.kind ≠ 4 ∧ t.kind ≠ 3 then t.text else esc t.text
theorem escOf_p {t : GTok} (h : t.kind ≠ 4 ∧ t.kind ≠ 3) : escOf t = t.text := if_pos h
theorem escOf_e {t : GTok} (h : ¬ (t.kind ≠ 4 ∧ t.kind ≠ 3)) : escOf t = esc t.text := if_neg h
theorem escOf_len (t : GTok) : (escOf t).length ≤ 2 * t.text.length := by
  unfold escOf; split
  · omega
  · exact esc_len _
theorem count_le_len (s : List UInt8) (c : UInt8) : Lib.count s [c] ≤ s.length := by rw [Lib.count_one]; exact List.count_le_length
theorem escaped_eq (t : GTok) (h : t.text.length ≤ 2000000000) : glue_escaped t = some (escOf t) := by
 unfold glue_escaped escOf
 have h1 := count_le_len t.text 92
 have h2 := count_le_len (sub1 92 [92, 92] t.text) 34
 have h3 := sub1_len 92 92 92 t.text
 rw [replaceAll_one 92 [92, 92] _ (by decide), replaceAll_one 34 [92, 34] _ (by decide), esc_two]
 rw [chkT (by simp only [List.length_cons, List.length_nil]; omega), chkT (by simp only [List.length_cons, List.length_nil]; omega)]
 by_cases hk : t.kind ≠ 4 ∧ t.kind ≠ 3
 ·rw [if_pos hk]
  simp only [chkB, andB, orB, condAnd, condOr, iteB, neqB, nltB, nleB, m8_9, m8_10, m8_11, m8_12, m8_13, m8_32, m8_34, m8_35, m8_39, m8_40, m8_41, m8_42, m8_43, m8_44, m8_45, m8_46, m8_47, m8_48, m8_60, m8_62, m8_64, m8_65, m8_67, m8_69, m8_80, m8_90, m8_92, m8_95, m8_97, m8_101, m8_112, m8_122, m8, orO_some, andO_some, Option.bind_some, getD_drop]
  rw [iteT (by rw [eqF hk.1, eqF hk.2]; rfl)]
 ·rw [if_neg hk]
  simp only [chkB, andB, orB, condAnd, condOr, iteB, neqB, nltB, nleB, m8_9, m8_10, m8_11, m8_12, m8_13, m8_32, m8_34, m8_35, m8_39, m8_40, m8_41, m8_42, m8_43, m8_44, m8_45, m8_46, m8_47, m8_48, m8_60, m8_62, m8_64, m8_65, m8_67, m8_69, m8_80, m8_90, m8_92, m8_95, m8_97, m8_101, m8_112, m8_122, m8, orO_some, andO_some, Option.bind_some, getD_drop]
  rw [iteF]
  rcases Decidable.not_and_iff_or_not.1 hk with h | h
  ·rw [eqT (Decidable.not_not.1 h)]; rfl
  ·rw [eqT (Decidable.not_not.1 h)]; simp
theorem printT_sub1 {l : List GTok} {x : GTok} (h : x ∈ l) : (printT [x]).length ≤ (printT l).length := by
  induction l with
  | nil => cases h
  | cons t r ih =>
    have e : printT (t :: r) = printOne t ++ printT r := by unfold printT; rw [List.flatMap_cons]
    have e2 : printT [t] = printOne t := by simp [printT]
    rw [e, List.length_append]
    rcases List.mem_cons.1 h with rfl | h
    · rw [e2]; omega
    · have := ih h; omega
def joinF (of : GTok → List UInt8) : Bool → Bool → List GTok → List UInt8
 | _, _, [] => []
 | bl, sm, t :: r => if t.kind = 7 then joinF of true sm r else (if (sm && (bl || t.blank)) = true then [32] else []) ++ (of t ++ joinF of false true r)
theorem joinF_len (of : GTok → List UInt8) (hof : ∀ t, (of t).length ≤ 2 * t.text.length) : ∀ (l : List GTok) (bl sm : Bool), (joinF of bl sm l).length ≤ 2 * (printT l).length + l.length
 | [], _, _ => Nat.zero_le _
 | t :: r, bl, sm => by
  have e : printT (t :: r) = printOne t ++ printT r := by unfold printT; rw [List.flatMap_cons]
  have h0 : t.text.length ≤ (printOne t).length := by unfold printOne; rw [List.length_append]; omega
  have h1 := hof t
  have h2 := joinF_len of hof r true sm
  have h3 := joinF_len of hof r false true
  rw [e, List.length_append, List.length_cons, joinF]
  split
  ·omega
  ·rw [List.length_append, List.length_append]
   split <;> simp only [List.length_cons, List.length_nil] <;> omega
def joinB (of : GTok → Option (List UInt8)) (l : List GTok) : Bool × Bool × Int × List UInt8 → Option (Step (Bool × Bool × Int × List UInt8) (List UInt8)) := fun x => match x with | (blank_1, some_1, t12_1, out_1) => if (decide (t12_1 < (l.length : Int))) = true then (ix l t12_1).bind fun y_1 => if (decide (y_1.kind = (7 : Int))) = true then chk (I64 (t12_1 + (1 : Int))) (some (.next (true, some_1, (t12_1 + (1 : Int)), out_1))) else (andO (some_1) ((orO (blank_1) (some (y_1.blank))).bind fun b_2 => some (b_2))).bind fun b_1 => if b_1 = true then chk (out_1.length + 1 ≤ 140737488355328) ((fun out_2 => (of y_1).bind fun r_1 => chk (out_2.length + r_1.length ≤ 140737488355328) (chk (I64 (t12_1 + (1 : Int))) (some (.next (false, true, (t12_1 + (1 : Int)), (out_2 ++ r_1)))))) (out_1 ++ [(32 : UInt8)])) else (fun out_2 => (of y_1).bind fun r_1 => chk (out_2.length + r_1.length ≤ 140737488355328) (chk (I64 (t12_1 + (1 : Int))) (some (.next (false, true, (t12_1 + (1 : Int)), (out_2 ++ r_1)))))) out_1 else some (.done out_1)
theorem join_loop (of : GTok → List UInt8) (ofO : GTok → Option (List UInt8)) (l : List GTok) (ho : ∀ t ∈ l, ofO t = some (of t)) (hl : l.length ≤ 9223372036854775806) (hb : (joinF of false false l).length ≤ 140737488355328) :
    loopS (joinB ofO l) (false, false, 0, []) = some (joinF of false false l) := by
  refine loopS_of (f := joinB ofO l) (fun x => ∃ k : Nat, x.2.2.1 = (k : Int) ∧ k ≤ l.length ∧ x.2.2.2.length + (joinF of x.1 x.2.1 (l.drop k)).length ≤ 140737488355328) (fun x => l.length - x.2.2.1.toNat) (fun x => x.2.2.2 ++ joinF of x.1 x.2.1 (l.drop x.2.2.1.toNat)) (s := (false, false, (0 : Int), ([] : List UInt8))) ⟨0, rfl, Nat.zero_le _, by simpa using hb⟩ (by simp only; omega) ?_
  rintro ⟨bl, sm, i, out⟩ ⟨k, e, hk, hbd⟩
  simp only at e hbd; subst e
  unfold joinB
  simp only [chkB, andB, orB, condAnd, condOr, iteB, neqB, nltB, nleB, m8_9, m8_10, m8_11, m8_12, m8_13, m8_32, m8_34, m8_35, m8_39, m8_40, m8_41, m8_42, m8_43, m8_44, m8_45, m8_46, m8_47, m8_48, m8_60, m8_62, m8_64, m8_65, m8_67, m8_69, m8_80, m8_90, m8_92, m8_95, m8_97, m8_101, m8_112, m8_122, m8, orO_some, andO_some, Option.bind_some, getD_drop, Int.toNat_natCast]
  by_cases hlt : k < l.length
  · left
    have hd : l.drop k = l[k] :: l.drop (k + 1) := List.drop_eq_getElem_cons hlt
    rw [hd] at hbd ⊢
    rw [iteT (ltT (by omega)), ix_at hlt, Option.bind_some]
    have e1 : ((k : Int) + 1) = ((k + 1 : Nat) : Int) := rfl
    by_cases h7 : l[k].kind = 7
    · rw [joinF, if_pos h7] at hbd
      refine ⟨(true, sm, ((k + 1 : Nat) : Int), out), ?_, ⟨k + 1, rfl, by omega, hbd⟩, by simp only; omega, ?_⟩
      · rw [iteT (eqT h7), pk (by omega)]; rfl
      · simp only [Int.toNat_natCast]; rw [joinF, if_pos h7]
    · rw [joinF, if_neg h7, List.length_append, List.length_append] at hbd
      rw [iteF (eqF h7)]
      have hsm : cond sm (some (bl || l[k].blank)) (some false) = some (sm && (bl || l[k].blank)) := by cases sm <;> rfl
      have ho2 := ho l[k] (List.getElem_mem hlt)
      by_cases hc : (sm && (bl || l[k].blank)) = true
      · rw [if_pos hc] at hbd
        simp only [List.length_cons, List.length_nil] at hbd
        refine ⟨(false, true, ((k + 1 : Nat) : Int), (out ++ [32]) ++ of l[k]), ?_, ⟨k + 1, rfl, by omega, ?_⟩, by simp only; omega, ?_⟩
        · rw [hc, iteT rfl, pk (by omega), ho2, Option.bind_some, pk (by simp only [List.length_append, List.length_cons, List.length_nil]; omega), pk (by omega)]; rfl
        · simp only [List.length_append, List.length_cons, List.length_nil]; omega
        · simp only [Int.toNat_natCast]; rw [joinF, if_neg h7, if_pos hc]; simp only [List.append_assoc]
      · rw [if_neg hc] at hbd
        simp only [List.length_nil] at hbd
        refine ⟨(false, true, ((k + 1 : Nat) : Int), out ++ of l[k]), ?_, ⟨k + 1, rfl, by omega, ?_⟩, by simp only; omega, ?_⟩
        · rw [Bool.eq_false_iff.2 hc, iteF rfl, ho2, Option.bind_some, pk (by omega), pk (by omega)]; rfl
        · simp only [List.length_append]; omega
        · simp only [Int.toNat_natCast]; rw [joinF, if_neg h7, if_neg hc]; simp only [List.append_assoc, List.nil_append]
  · right
    rw [iteF (ltF (by omega)), List.drop_of_length_le (by omega)]; simp [joinF]
theorem text_eq (l : List GTok) (hl : l.length ≤ 9223372036854775806) (hb : (joinF GTok.text false false l).length ≤ 140737488355328) : glue_Text l = some (joinF GTok.text false false l) := by
 unfold glue_Text glue_joined__glue_Text_c1
 rw [show glue_joined__glue_Text_c1_b2 l = joinB glue_Text_c1 l from rfl, join_loop GTok.text glue_Text_c1 l (fun t _ => rfl) hl hb]; rfl
theorem string_eq (l : List GTok) (hl : l.length ≤ 9223372036854775806) (ht : ∀ t ∈ l, t.text.length ≤ 2000000000) (hb : (joinF escOf false false l).length ≤ 140737488355328) : glue_String l = some ⟨4, 34 :: (joinF escOf false false l ++ [34]), 0, 0, 0, false⟩ := by
 unfold glue_String glue_joined__glue_escaped
 rw [show glue_joined__glue_escaped_b2 l = joinB glue_escaped l from rfl, join_loop escOf _ l (fun t h => escaped_eq t (ht t h)) hl hb]
 simp only [Option.bind_some, glue_joined__glue_escaped_j1]
 rw [chkT (by simp only [List.length_cons, List.length_nil]; omega), chkT (by simp only [List.length_append, List.length_cons, List.length_nil]; omega)]; rfl
theorem unq_plain (X : List UInt8) : ∀ w : List UInt8, (∀ c ∈ w, c ≠ 34 ∧ c ≠ 92) → unq (w ++ X) = (unq X).map (w ++ ·)
  | [], _ => by cases h : unq X <;> simp [h]
  | c :: w, h => by
    obtain ⟨h1, h2⟩ := h c (by simp)
    rw [List.cons_append, unq_cons, if_neg h1, if_neg h2, unq_plain X w (fun d hd => h d (by simp [hd]))]
    cases unq X <;> rfl
theorem unq_esc (X : List UInt8) : ∀ w : List UInt8, unq (esc w ++ X) = (unq X).map (w ++ ·)
  | [] => by cases h : unq X <;> simp [esc, h]
  | c :: w => by
    rw [esc_cons]
    by_cases h : c = 92 ∨ c = 34
    · rw [if_pos h]
      show unq (92 :: c :: (esc w ++ X)) = _
      rw [unq_cons, if_neg (by decide), if_pos rfl]
      simp only [unq_esc X w]
      cases unq X <;> rfl
    · rw [if_neg h]
      show unq (c :: (esc w ++ X)) = _
      rw [unq_cons, if_neg (fun e => h (.inr e)), if_neg (fun e => h (.inl e)), unq_esc X w]
      cases unq X <;> rfl
theorem unq_join : ∀ (l : List GTok) (bl sm : Bool), (∀ t ∈ l, PlainTok t.kind t.text ∧ t.kind ≠ 6) → unq (joinF escOf bl sm l) = some (joinF GTok.text bl sm l)
 | [], _, _, _ => rfl
 | t :: r, bl, sm, h => by
  obtain ⟨h1, h6⟩ := h t (by simp)
  have hr : ∀ x ∈ r, PlainTok x.kind x.text ∧ x.kind ≠ 6 := fun x hx => h x (by simp [hx])
  rw [joinF, joinF]
  by_cases h7 : t.kind = 7
  ·rw [if_pos h7, if_pos h7, unq_join r _ _ hr]
  ·rw [if_neg h7, if_neg h7]
   have key : unq (escOf t ++ joinF escOf false true r) = some (t.text ++ joinF GTok.text false true r) := by
    by_cases hk : t.kind ≠ 4 ∧ t.kind ≠ 3
    ·rw [escOf_p hk, unq_plain _ _ ((h1 h6 h7).2 hk.2 hk.1), unq_join r _ _ hr]; rfl
    ·rw [escOf_e hk, unq_esc, unq_join r _ _ hr]; rfl
   by_cases hc : (sm && (bl || t.blank)) = true
   ·rw [if_pos hc]
    show unq (32 :: (escOf t ++ joinF escOf false true r)) = _
    rw [unq_cons, if_neg (by decide), if_neg (by decide), key]; rfl
   ·rw [if_neg hc]; exact key
end Go.Sh
set_option linter.unusedVariables false
set_option linter.unusedSimpArgs false
namespace Go.Sh
open Go
theorem alive_is : emendtop_alive = some true := by kernel_rfl
theorem plainIn_eq (s signs : List UInt8) (i : Nat) (hi : i < s.length) (h2 : signs.length ≤ 1000) : ∃ r, loopS (emendtop_plain_b4 s signs (i : Int)) (0 : Int) = some r ∧ ((r = .inl () ∧ s[i] ∉ signs) ∨ (r = .inr false ∧ s[i] ∈ signs)) := by
 refine loopS_ix (f := emendtop_plain_b4 s signs (i : Int)) signs.length (by omega) (fun k x => x = (k : Int) ∧ s[i] ∉ signs.take k) _ (s0 := (0 : Int)) ⟨rfl, by simp⟩ ?_ ?_
 ·rintro k x hk ⟨rfl, hn⟩
  unfold emendtop_plain_b4
  rw [if_pos (decide_eq_true (by omega)), ix_at hi, Option.bind_some, ix_at hk, Option.bind_some]
  by_cases e : s[i] = signs[k]
  ·right
   rw [if_pos (decide_eq_true (by rw [e]))]
   exact ⟨_, rfl, .inr ⟨rfl, by rw [e]; exact List.getElem_mem hk⟩⟩
  ·left
   rw [if_neg (by simpa [u8i] using e), chkT (by omega)]
   refine ⟨_, rfl, by push_cast; rfl, fun hm => ?_⟩
   rw [List.take_add_one, List.getElem?_eq_getElem hk] at hm
   rcases List.mem_append.1 hm with hm | hm
   ·exact hn hm
   ·exact e (List.mem_singleton.1 hm)
 ·rintro x ⟨rfl, hn⟩
  rw [List.take_length] at hn
  refine ⟨.inl (), ?_, .inl ⟨rfl, hn⟩⟩
  unfold emendtop_plain_b4
  exact if_neg (by simp)
theorem plain_eq (s : List UInt8) (n : Int) (signs : List UInt8) (hn : n ≤ 1000) (h2 : signs.length ≤ 1000) : emendtop_plain s n signs = some (decide ((s.length : Int) ≤ n ∧ ∀ c ∈ s, c ∉ signs)) := by
 unfold emendtop_plain
 by_cases hl : (s.length : Int) ≤ n
 ·rw [if_neg (by simpa using hl)]
  obtain ⟨r, g1, g2⟩ := loopS_ix (f := emendtop_plain_b2 s signs) s.length (by omega) (fun k x => x = (k : Int) ∧ ∀ c ∈ s.take k, c ∉ signs) (fun r => (r = .inl () ∧ ∀ c ∈ s, c ∉ signs) ∨ (r = .inr false ∧ ¬ ∀ c ∈ s, c ∉ signs)) (s0 := (0 : Int)) ⟨rfl, by simp⟩ (by
   rintro k x hk ⟨rfl, hn2⟩
   unfold emendtop_plain_b2
   rw [if_pos (decide_eq_true (by omega))]
   obtain ⟨q, q1, q2⟩ := plainIn_eq s signs k hk h2
   rw [q1, Option.bind_some]
   rcases q2 with ⟨rfl, q2⟩ | ⟨rfl, q2⟩
   ·left
    simp only [emendtop_plain_j3]
    rw [chkT (by omega)]
    refine ⟨_, rfl, by push_cast; rfl, fun c hc => ?_⟩
    rw [List.take_add_one, List.getElem?_eq_getElem hk] at hc
    rcases List.mem_append.1 hc with hc | hc
    ·exact hn2 c hc
    ·rw [List.mem_singleton.1 hc]; exact q2
   ·right
    exact ⟨_, rfl, .inr ⟨rfl, fun h => h _ (List.getElem_mem hk) q2⟩⟩) (by
   rintro x ⟨rfl, hn2⟩
   rw [List.take_length] at hn2
   refine ⟨.inl (), ?_, .inl ⟨rfl, hn2⟩⟩
   unfold emendtop_plain_b2
   exact if_neg (by simp))
  rw [g1, Option.bind_some]
  rcases g2 with ⟨rfl, g2⟩ | ⟨rfl, g2⟩
  ·rw [decide_eq_true ⟨hl, g2⟩]; rfl
  ·rw [decide_eq_false (fun h => g2 h.2)]
 ·rw [if_pos (decide_eq_true (by omega)), decide_eq_false (fun h => hl h.1)]
end Go.Sh
set_option linter.unusedVariables false
set_option linter.unusedSimpArgs false
namespace Go.Sh
open Go
theorem piecesF_ge : ∀ (l : List GTok) (f i : Nat), f ≤ i → ∀ p ∈ piecesF f i l, (f : Int) ≤ p.1
  | [], f, i, h, p, hp => by
    unfold piecesF at hp; split at hp
    · simp at hp; subst hp; exact Int.le_refl _
    · simp at hp
  | t :: r, f, i, h, p, hp => by
    unfold piecesF at hp; split at hp
    · rcases List.mem_cons.1 hp with rfl | hp
      · exact Int.le_refl _
      · have := piecesF_ge r (i + 1) (i + 1) (Nat.le_refl _) p hp; omega
    · exact piecesF_ge r f (i + 1) (by omega) p hp
theorem piecesF_app (t : GTok) (ht : t.kind = 7) (b : List GTok) : ∀ (a : List GTok) (f i : Nat), (∀ x ∈ a, x.kind ≠ 7) → piecesF f i (a ++ t :: b) = ((f : Int), ((i + a.length : Nat) : Int)) :: piecesF (i + a.length + 1) (i + a.length + 1) b
 | [], f, i, _ => by rw [List.nil_append, piecesF, if_pos ht]; rfl
 | x :: a, f, i, h => by
  rw [List.cons_append, piecesF, if_neg (h x (by simp)), piecesF_app t ht b a f (i + 1) (fun y hy => h y (by simp [hy]))]
  rw [List.length_cons, show i + 1 + a.length = i + (a.length + 1) by omega]
theorem piecesF_last : ∀ (a : List GTok) (f i : Nat), (∀ x ∈ a, x.kind ≠ 7) → piecesF f i a = if f < i + a.length then [((f : Int), ((i + a.length : Nat) : Int))] else []
 | [], f, i, _ => rfl
 | x :: a, f, i, h => by
  rw [piecesF, if_neg (h x (by simp)), piecesF_last a f (i + 1) (fun y hy => h y (by simp [hy])), List.length_cons, show i + 1 + a.length = i + (a.length + 1) by omega]
def linesAt (n : Nat) (l : List GTok) : List GLine := (piecesF n n l).map fun p => lineOf ((l.drop (p.1.toNat - n)).take (p.2.toNat - p.1.toNat)) p.1
theorem linesAt_nil (n : Nat) : linesAt n [] = [] := by unfold linesAt piecesF; rw [if_neg (Nat.lt_irrefl _)]; rfl
theorem linesAt_cut (n : Nat) (a : List GTok) (ha : ∀ x ∈ a, x.kind ≠ 7) (t : GTok) (ht : t.kind = 7) (b : List GTok) : linesAt n (a ++ t :: b) = lineOf a n :: linesAt (n + a.length + 1) b := by
 unfold linesAt
 rw [piecesF_app t ht b a n n ha, List.map_cons]
 congr 1
 ·simp only [Int.toNat_natCast, Nat.sub_self, List.drop_zero]
  rw [show n + a.length - n = a.length by omega, List.take_left' rfl]
 ·refine List.map_congr_left fun p hp => ?_
  have h1 := piecesF_ge b _ _ (Nat.le_refl _) p hp
  have e : (a ++ t :: b).drop (p.1.toNat - n) = b.drop (p.1.toNat - (n + a.length + 1)) := by
   rw [show p.1.toNat - n = (a ++ [t]).length + (p.1.toNat - (n + a.length + 1)) by simp only [List.length_append, List.length_singleton]; omega]
   rw [show a ++ t :: b = (a ++ [t]) ++ b by simp, List.drop_append]
   simp
  rw [e]
theorem linesAt_last (n : Nat) (a : List GTok) (ha : ∀ x ∈ a, x.kind ≠ 7) (h0 : a ≠ []) : linesAt n a = [lineOf a n] := by
 have hp : 0 < a.length := List.length_pos_iff.2 h0
 unfold linesAt
 rw [piecesF_last a n n ha, if_pos (by omega), List.map_singleton]
 simp only [Int.toNat_natCast, Nat.sub_self, List.drop_zero]
 rw [show n + a.length - n = a.length by omega, List.take_length]
end Go.Sh
set_option linter.unusedVariables false
set_option linter.unusedSimpArgs false
namespace Go.Sh
open Go
theorem tokens_no92 (f : Int) (s : List UInt8) (h : ∀ c ∈ s, c ≠ 92) : (tokens f s).map tk = (toks 0 false s).map ptk := by
 rw [tokens_tk, charsAt_no92 s 0 h]
theorem tokens_cut (f g g2 : Int) (a b : List UInt8) (h92 : ∀ c ∈ a ++ 10 :: b, c ≠ 92) (h47 : ∀ c ∈ a, c ≠ 47) : ∃ bl, (tokens f (a ++ 10 :: b)).map tk = (tokens g a).map tk ++ (7, [10], bl) :: (tokens g2 b).map tk := by
 rw [tokens_no92 f _ h92, tokens_no92 g a (fun c hc => h92 c (by simp [hc])), tokens_no92 g2 b (fun c hc => h92 c (by simp [hc]))]
 obtain ⟨i2, b2, e⟩ := toks_line b a.length 0 0 false a (Nat.le_refl _) h47
 refine ⟨b2, ?_⟩
 have h0 : blankLen (10 :: b) = 0 := by simp [blankLen, isWS]
 have hn : nextTok (10 :: b) = (7, 1) := by unfold nextTok; exact if_pos rfl
 rw [e, toks_tok (List.cons_ne_nil _ _) h0, hn, List.map_cons]
 congr 2
 exact toks_shift b.length _ _ _ _ (Nat.le_refl _)
end Go.Sh
set_option linter.unusedVariables false
set_option linter.unusedSimpArgs false
namespace Go.Sh
open Go
abbrev Key := Int × List UInt8 × Bool
def lk (x : GLine) : Int × List Key := (x.kind, x.toks.map tk)
def lineK : List Key → Int × List Key
 | [] => (1, [])
 | t :: r => if t.1 = 5 ∧ t.2.1 = [35] then (match r with
   | [] => (14, [])
   | u :: r2 => if u.1 = 1 ∧ kindOf u.2.1 ≠ 0 then (kindOf u.2.1, r2) else (15, u :: r2)) else (1, t :: r)
def cutK : List Key → List Key → List (List Key)
 | a, [] => if a = [] then [] else [a]
 | a, t :: r => if t.1 = 7 then a :: cutK [] r else cutK (a ++ [t]) r
theorem lk_lineOf (a : List GTok) (n : Int) : lk (lineOf a n) = lineK (a.map tk) := by
 match a with
 | [] => rfl
 | [t] =>
  by_cases h : t.kind = 5 ∧ t.text = [35]
  ·simp only [lineOf, if_pos h, List.map_cons, List.map_nil, lineK, tk]; rfl
  ·simp only [lineOf, if_neg h, List.map_cons, List.map_nil, lineK, tk]; rfl
 | t :: u :: r =>
  by_cases h : t.kind = 5 ∧ t.text = [35]
  ·by_cases h2 : u.kind = 1 ∧ kindOf u.text ≠ 0
   ·simp only [lineOf, if_pos h, if_pos h2, List.map_cons, lineK, tk]; rfl
   ·simp only [lineOf, if_pos h, if_neg h2, List.map_cons, lineK, tk]; rfl
  ·simp only [lineOf, if_neg h, List.map_cons, lineK, tk]; rfl
theorem linesAt_keys : ∀ (l a : List GTok) (n : Nat), (∀ x ∈ a, x.kind ≠ 7) → (linesAt n (a ++ l)).map lk = (cutK (a.map tk) (l.map tk)).map lineK
 | [], a, n, h => by
  rw [List.append_nil, List.map_nil, cutK]
  by_cases e : a = []
  ·subst e; rw [linesAt_nil]; rfl
  ·rw [linesAt_last n a h e, if_neg (by simpa using e), List.map_singleton, List.map_singleton, lk_lineOf]
 | t :: r, a, n, h => by
  rw [List.map_cons, cutK]
  by_cases e : t.kind = 7
  ·rw [linesAt_cut n a h t e r, if_pos (show (tk t).1 = 7 from e), List.map_cons, List.map_cons, lk_lineOf]
   exact congrArg _ (linesAt_keys r [] _ (by simp))
  ·rw [if_neg (show ¬ (tk t).1 = 7 from e), show a ++ t :: r = (a ++ [t]) ++ r by simp, linesAt_keys r (a ++ [t]) n (fun x hx => by
    rcases List.mem_append.1 hx with hx | hx
    ·exact h x hx
    ·rw [List.mem_singleton.1 hx]; exact e), List.map_append, List.map_singleton]
theorem lines_keys (l : List GTok) : (linesOf l).map lk = (cutK [] (l.map tk)).map lineK := linesAt_keys l [] 0 (by simp)
theorem cutK_app (t : Key) (ht : t.1 = 7) (b : List Key) : ∀ (c a : List Key), (∀ x ∈ c, x.1 ≠ 7) → cutK a (c ++ t :: b) = (a ++ c) :: cutK [] b
 | [], a, _ => by rw [List.nil_append, cutK, if_pos ht, List.append_nil]
 | x :: c, a, h => by rw [List.cons_append, cutK, if_neg (h x (by simp)), cutK_app t ht b c (a ++ [x]) (fun y hy => h y (by simp [hy]))]; simp
end Go.Sh
set_option linter.unusedVariables false
set_option linter.unusedSimpArgs false
namespace Go.Sh
open Go
theorem closed_keys {t : List UInt8} {k : List Key} (ht : t.length ≤ 2000000) (h : (pptok_Tokens 0 t).map (List.map tk) = some k) : (tokens 0 t).map tk = k := by
 rw [tokens_eq 0 t ht] at h
 exact Option.some.inj h
end Go.Sh
set_option linter.unusedVariables false
set_option linter.unusedSimpArgs false
namespace Go.Sh
open Go
theorem toks_in0 (n : Nat) : ∀ (i : Nat) (b : Bool) (u : List UInt8), u.length ≤ n → ∀ p ∈ toks i b u, ∀ c ∈ p.text, c ∈ u := by
  induction n with
  | zero => intro i b u hu p hp; have : u = [] := List.length_eq_zero_iff.1 (by omega); subst this; rw [toks_nil] at hp; cases hp
  | succ n ih =>
    intro i b u hu p hp c hc
    by_cases h0 : u = []
    · subst h0; rw [toks_nil] at hp; cases hp
    have hl : 0 < u.length := List.length_pos_iff.2 h0
    by_cases hb : 0 < blankLen u
    · rw [toks_blank hb] at hp
      exact List.mem_of_mem_drop (ih _ _ _ (by rw [List.length_drop]; omega) p hp c hc)
    · rw [toks_tok h0 (by omega)] at hp
      rcases List.mem_cons.1 hp with rfl | hp
      · exact List.mem_of_mem_take hc
      · have := nextTok_pos u
        exact List.mem_of_mem_drop (ih _ _ _ (by rw [List.length_drop]; omega) p hp c hc)
end Go.Sh
set_option linter.unusedVariables false
set_option linter.unusedSimpArgs false
namespace Go.Sh
open Go
end Go.Sh
set_option linter.unusedVariables false
set_option linter.unusedSimpArgs false
namespace Go.Sh
open Go
end Go.Sh
set_option linter.unusedVariables false
set_option linter.unusedSimpArgs false
namespace Go.Sh
open Go
theorem concatK_eq (x r : List GExpand_token) (h : x.length + r.length ≤ 1000000) : slices_Concat_Lexpand_token_expand_token [x, r] = some (x ++ r) := by
 unfold slices_Concat_Lexpand_token_expand_token
 obtain ⟨s, g1, g2⟩ := loopS_ix (f := slices_Concat_Lexpand_token_expand_token_b2 [x, r]) 2 (by omega) (fun k s => (k = 0 ∧ s = ((0 : Int), (0 : Int))) ∨ (k = 1 ∧ s = ((x.length : Int), (1 : Int))) ∨ (k = 2 ∧ s = (((x.length : Int) + (r.length : Int)), (2 : Int)))) (fun z => z = (x.length : Int) + (r.length : Int)) (s0 := ((0 : Int), (0 : Int))) (.inl ⟨rfl, rfl⟩) (by
  rintro k s hk (⟨rfl, rfl⟩ | ⟨rfl, rfl⟩ | ⟨rfl, rfl⟩)
  ·left
   refine ⟨((x.length : Int), (1 : Int)), ?_, .inr (.inl ⟨rfl, rfl⟩)⟩
   unfold slices_Concat_Lexpand_token_expand_token_b2
   simp only
   rw [if_pos (by simp), show ix [x, r] 0 = some x from rfl, Option.bind_some, chkT (by omega), if_neg (by simp), chkT (by omega)]
   simp
  ·left
   refine ⟨(((x.length : Int) + (r.length : Int)), (2 : Int)), ?_, .inr (.inr ⟨rfl, rfl⟩)⟩
   unfold slices_Concat_Lexpand_token_expand_token_b2
   simp only
   rw [if_pos (by simp), show ix [x, r] 1 = some r from rfl, Option.bind_some, chkT (by omega), if_neg (by simp; omega), chkT (by omega)]
   rfl
  ·omega) (by
  rintro s (⟨h0, _⟩ | ⟨h0, _⟩ | ⟨_, rfl⟩)
  ·omega
  ·omega
  ·refine ⟨_, ?_, rfl⟩
   unfold slices_Concat_Lexpand_token_expand_token_b2
   exact if_neg (by simp))
 rw [g1, Option.bind_some, g2]
 unfold slices_Concat_Lexpand_token_expand_token_j1
 rw [chkT (by omega)]
 obtain ⟨s2, g3, g4⟩ := loopS_ix (f := slices_Concat_Lexpand_token_expand_token_b4 [x, r]) 2 (by omega) (fun k s => (k = 0 ∧ s = ((0 : Int), ([] : List GExpand_token))) ∨ (k = 1 ∧ s = ((1 : Int), x)) ∨ (k = 2 ∧ s = ((2 : Int), x ++ r))) (fun z => z = x ++ r) (s0 := ((0 : Int), ([] : List GExpand_token))) (.inl ⟨rfl, rfl⟩) (by
  rintro k s hk (⟨rfl, rfl⟩ | ⟨rfl, rfl⟩ | ⟨rfl, rfl⟩)
  ·left
   refine ⟨((1 : Int), x), ?_, .inr (.inl ⟨rfl, rfl⟩)⟩
   unfold slices_Concat_Lexpand_token_expand_token_b4
   simp only
   rw [if_pos (by simp), show ix [x, r] 0 = some x from rfl, Option.bind_some, chkT (by simp; omega), chkT (by omega)]
   rfl
  ·left
   refine ⟨((2 : Int), x ++ r), ?_, .inr (.inr ⟨rfl, rfl⟩)⟩
   unfold slices_Concat_Lexpand_token_expand_token_b4
   simp only
   rw [if_pos (by simp), show ix [x, r] 1 = some r from rfl, Option.bind_some, chkT (by omega), chkT (by omega)]
   rfl
  ·omega) (by
  rintro s (⟨h0, _⟩ | ⟨h0, _⟩ | ⟨_, rfl⟩)
  ·omega
  ·omega
  ·refine ⟨_, ?_, rfl⟩
   unfold slices_Concat_Lexpand_token_expand_token_b4
   exact if_neg (by simp))
 rw [g3, Option.bind_some, g4]
 rfl
end Go.Sh
set_option linter.unusedVariables false
set_option linter.unusedSimpArgs false
namespace Go.Sh
open Go
def bareF : Bool → List GTok → List GExpand_token
 | _, [] => []
 | b, t :: r => if t.kind = 7 then bareF true r else GExpand_token.mk (GTok.mk t.kind t.text t.file_ t.from_ t.to (t.blank || b)) [] false false :: bareF false r
theorem bare_eq (l : List GTok) (h : l.length ≤ 1000000) : expand_bare l = some (bareF false l) := by
 unfold expand_bare
 obtain ⟨s, g1, g2⟩ := loopS_ix (f := expand_bare_b2 l) l.length (by omega) (fun k s => ∃ b out, s = (b, (k : Int), out) ∧ out.length ≤ k ∧ out ++ bareF b (l.drop k) = bareF false l) (fun z => z = bareF false l) (s0 := (false, (0 : Int), ([] : List GExpand_token))) ⟨false, [], rfl, Nat.le_refl _, rfl⟩ (by
  rintro k s hk ⟨b, out, rfl, ho, e⟩
  left
  unfold expand_bare_b2
  simp only
  rw [if_pos (decide_eq_true (by omega)), ix_at hk, Option.bind_some]
  rw [List.drop_eq_getElem_cons hk, bareF] at e
  by_cases h7 : l[k].kind = 7
  ·rw [if_pos (decide_eq_true h7), chkT (by omega)]
   rw [if_pos h7] at e
   exact ⟨_, rfl, true, out, by push_cast; rfl, by omega, e⟩
  ·rw [if_neg (by simpa using h7)]
   rw [if_neg h7] at e
   rw [orO_some, Option.bind_some, chkT (by omega), chkT (by omega)]
   refine ⟨_, rfl, false, _, by push_cast; rfl, ?_, ?_⟩
   ·rw [List.length_append]; simp only [List.length_cons, List.length_nil]; omega
   ·rw [List.append_assoc]; exact e) (by
  rintro s ⟨b, out, rfl, ho, e⟩
  refine ⟨out, ?_, by rw [List.drop_length] at e; simpa [bareF] using e⟩
  unfold expand_bare_b2
  exact if_neg (by simp))
 rw [g1, Option.bind_some, g2]
 rfl
end Go.Sh
set_option linter.unusedVariables false
set_option linter.unusedSimpArgs false
namespace Go.Sh
open Go
theorem xplain_eq (l : List GExpand_token) (h : l.length ≤ 1000000) : expand_plain l = some (l.map GExpand_token.tok) := by
 unfold expand_plain
 obtain ⟨s, g1, g2⟩ := loopS_ix (f := expand_plain_b2 l) l.length (by omega) (fun k s => s = ((k : Int), (l.take k).map GExpand_token.tok)) (fun z => z = l.map GExpand_token.tok) (s0 := ((0 : Int), ([] : List GTok))) rfl (by
  rintro k s hk rfl
  left
  unfold expand_plain_b2
  simp only
  rw [if_pos (decide_eq_true (by omega)), ix_at hk, Option.bind_some, chkT (by rw [List.length_map, List.length_take]; omega), chkT (by omega)]
  refine ⟨_, rfl, ?_⟩
  rw [List.take_add_one, List.getElem?_eq_getElem hk, List.map_append]
  rfl) (by
  rintro s rfl
  refine ⟨l.map GExpand_token.tok, ?_, rfl⟩
  rw [List.take_length]
  unfold expand_plain_b2
  exact if_neg (by simp))
 rw [g1, Option.bind_some, g2]
 rfl
end Go.Sh
set_option linter.unusedVariables false
set_option linter.unusedSimpArgs false
namespace Go.Sh
open Go
theorem hides_nil (y : GExpand_token) (n : List UInt8) (h : y.hide = []) : expand_token_hides y n = some false := by
 unfold expand_token_hides
 rw [h]
 show (slices_Contains_Lstring_string [] n).bind _ = _
 rw [show slices_Contains_Lstring_string [] n = some false by kernel_rfl]
 rfl
end Go.Sh
set_option linter.unusedVariables false
set_option linter.unusedSimpArgs false
namespace Go.Sh
open Go
end Go.Sh
set_option linter.unusedVariables false
set_option linter.unusedSimpArgs false
namespace Go.Sh
open Go
def Goes {σ ρ : Type} (f : σ → Option (Step σ ρ)) (n : Nat) (s : σ) (r : ρ) : Prop := ∀ m, iterS f (n + m) s = some r
theorem Goes.done {σ ρ : Type} {f : σ → Option (Step σ ρ)} {s : σ} {r : ρ} (h : f s = some (.done r)) : Goes f 1 s r := fun m => by
 rw [Nat.add_comm]; simp only [iterS, h]
theorem Goes.next {σ ρ : Type} {f : σ → Option (Step σ ρ)} {s s' : σ} {r : ρ} {n : Nat} (h : f s = some (.next s')) (g : Goes f n s' r) : Goes f (n + 1) s r := fun m => by
 rw [show n + 1 + m = (n + m) + 1 by omega]; simp only [iterS, h]; exact g m
theorem Goes.loop {σ ρ : Type} {f : σ → Option (Step σ ρ)} {s : σ} {r : ρ} {n : Nat} (g : Goes f n s r) (h : n ≤ 1000000) : loopS f s = some r := by
 unfold loopS
 have := g (18446744073709551616 - n)
 rwa [show n + (18446744073709551616 - n) = 18446744073709551616 by omega] at this
theorem item_dir {R : UnitR} {f : GUnit_file} {L : List GItem} {i : Int} {run run' : GUnit_run} {e : Option GFault} {y : GItem} {ln : GLine} (hx : ix L i = some y) (hi : i < L.length) (h0 : 0 ≤ i) (h9 : i ≤ 1000000) (hb : y.branches = []) (hl : ix f.lines y.line_ = some ln) (hk : ln.kind ≠ 1) (hd : R.unit_file_directive f run y.line_ = some (e, run')) :
  unit_file_items_b2 R f L (i, run) = if e.isSome = true then some (.done (Sum.inr (e, run'))) else some (.next (i + 1, run')) := by
 unfold unit_file_items_b2
 simp only
 rw [if_pos (decide_eq_true hi), hx, Option.bind_some, hb, if_neg (by simp), hl, Option.bind_some, if_pos (by simpa using hk), hd, Option.bind_some]
 unfold unit_file_items_j3
 simp only
 rw [chkT (by omega)]
theorem item_text {R : UnitR} {f : GUnit_file} {L : List GItem} {i : Nat} {run run' : GUnit_run} {e : Option GFault} (hi : i < L.length) (h9 : L.length ≤ 1000000)
  (hb : ∀ j, i ≤ j → j < L.length → ∃ y ln, ix L (j : Int) = some y ∧ y.branches = [] ∧ ix f.lines y.line_ = some ln ∧ ln.kind = 1)
  (hd : unit_file_text f run (L.drop i) = some (e, run')) :
  unit_file_items_b2 R f L ((i : Int), run) = if e.isSome = true then some (.done (Sum.inr (e, run'))) else some (.next ((L.length : Int), run')) := by
 obtain ⟨y, ln, hx, hy, hl, hk⟩ := hb i (Nat.le_refl _) hi
 unfold unit_file_items_b2
 simp only
 rw [if_pos (decide_eq_true (by omega)), hx, Option.bind_some, hy, if_neg (by simp), hl, Option.bind_some, if_neg (by rw [hk]; simp)]
 obtain ⟨q, g1, g2⟩ := loopS_rel (f := unit_file_items_b5 R f L) (fun z : Int => ∃ k : Nat, z = (k : Int) ∧ i ≤ k ∧ k < L.length) (fun z => L.length - z.toNat) (fun z : Int => z = (L.length : Int) - 1) (s := (i : Int)) ⟨i, rfl, Nat.le_refl _, hi⟩ (by omega) (by
  rintro z ⟨k, rfl, k1, k2⟩
  unfold unit_file_items_b5
  rw [chkT (by omega), chkT (by omega)]
  by_cases hk2 : k + 1 < L.length
  ·left
   obtain ⟨y2, ln2, hx2, hy2, hl2, hk2'⟩ := hb (k + 1) (by omega) hk2
   have hx2 : ix L ((k : Int) + 1) = some y2 := by rw [← hx2]; push_cast; rfl
   rw [hx2, Option.bind_some, andO_some, Option.bind_some, chkT (by omega), Option.bind_some, hl2, Option.bind_some, andO_some, Option.bind_some]
   rw [if_pos (by rw [hy2, hk2']; simp; omega), chkT (by omega)]
   exact ⟨_, rfl, ⟨k + 1, by push_cast; rfl, by omega, hk2⟩, by omega⟩
  ·right
   have af : ∀ x, andO false x = some false := fun _ => rfl
   rw [show decide ((k : Int) + 1 < (L.length : Int)) = false from decide_eq_false (by omega), af, Option.bind_some, af, Option.bind_some, if_neg (by simp)]
   exact ⟨_, rfl, by omega⟩)
 subst g2
 rw [g1, Option.bind_some]
 unfold unit_file_items_j4
 rw [chkT (by omega), chkT (by omega)]
 have ed : ((L.drop ((i : Int)).toNat).take (((L.length : Int) - 1 + 1).toNat - ((i : Int)).toNat)) = L.drop i := by
  rw [Int.toNat_natCast]
  exact List.take_of_length_le (by rw [List.length_drop]; omega)
 rw [ed, hd, Option.bind_some]
 unfold unit_file_items_j3
 simp only
 rw [chkT (by omega), show (L.length : Int) - 1 + 1 = (L.length : Int) by omega]
theorem items_end {R : UnitR} {f : GUnit_file} {L : List GItem} {run : GUnit_run} : unit_file_items_b2 R f L ((L.length : Int), run) = some (.done (.inl run)) := by
 unfold unit_file_items_b2
 exact if_neg (by simp)
theorem items_of {R : UnitR} {f : GUnit_file} {L : List GItem} {run : GUnit_run} {n : Nat} {o : Sum GUnit_run (Option GFault × GUnit_run)} (g : Goes (unit_file_items_b2 R f L) n ((0 : Int), run) o) (h : n ≤ 1000000) : unit_file_itemsF R f run L = some (match o with | .inl r => (none, r) | .inr x => x) := by
 unfold unit_file_itemsF
 rw [g.loop h, Option.bind_some]
 cases o <;> rfl
theorem dir_define {R : UnitR} {f : GUnit_file} {run run' : GUnit_run} {line : Int} {ln : GLine} (hl : ix f.lines line = some ln) (hk : ln.kind = 8) (hd : unit_file_define f run ln.toks = some (0, run')) : unit_file_directiveF R f run line = some (none, run') := by
 unfold unit_file_directiveF
 rw [hl, Option.bind_some, if_pos (decide_eq_true hk), hd]
 rfl
theorem file_step {R : UnitR} {run : GUnit_run} {number deep : Int} {y : GFile} {toks : List GTok} {ls : List GLine} {items : List GItem} {x : Option GFault × GUnit_run} (hx : ix run.files number = some y) (ht : pptok_Tokens number y.text = some toks) (hl : direct_Lines toks = some ls) (hp : cond_Parse ls = some (items, 0, 0)) (hR : R.unit_file_items (GUnit_file.mk number ls deep) run items = some x) : unit_run_fileF R run number deep = some x := by
 unfold unit_run_fileF
 rw [hx, Option.bind_some, ht, Option.bind_some, hl, Option.bind_some, hp, Option.bind_some, if_neg (by simp), hR]
 rfl
def runOut (run : GUnit_run) : Option GFault → List GTok × GFault
 | none => (run.told, GFault.mk 0 0 0)
 | some fa => ([], fa)
theorem run_of {files : List GFile} {main : List UInt8} {k : Int} {e : Option GFault} {run : GUnit_run} (hf : unit_Find files main = some k) (hk : 0 ≤ k) (h : unit_run_file (GUnit_run.mk files [] [] 0) k 1 = some (e, run)) : unit_Run files main [] = some (runOut run e) := by
 unfold unit_Run
 rw [show unit_First [] = some ([], 0) by kernel_rfl, Option.bind_some, hf, Option.bind_some, if_neg (by simp), if_neg (by simp; omega)]
 rw [(Goes.done (f := unit_Run_b2 ([], 0)) (s := ((0 : Int), GUnit_run.mk files [] [] 0)) (r := GUnit_run.mk files [] [] 0) rfl).loop (by omega), Option.bind_some]
 unfold unit_Run_j1
 rw [h, Option.bind_some]
 cases e <;> rfl
theorem text_one {f : GUnit_file} {run : GUnit_run} {it : GItem} {ln : GLine} (hl : ix f.lines it.line_ = some ln) (hs : ln.toks.length ≤ 1000000) : unit_file_text f run [it] = unit_file_text_j1 f run [it] ln.toks := by
 unfold unit_file_text
 have s1 : unit_file_text_b2 f [it] ((0 : Int), ([] : List GTok)) = some (.next ((1 : Int), ln.toks)) := by
  unfold unit_file_text_b2
  simp only
  rw [if_pos (by simp), show ix [it] 0 = some it from rfl, Option.bind_some, if_neg (by simp)]
  unfold unit_file_text_j3
  rw [hl, Option.bind_some, chkT (by simp only [List.length_nil]; omega), chkT (by omega)]
  rfl
 have s2 : unit_file_text_b2 f [it] ((1 : Int), ln.toks) = some (.done ln.toks) := rfl
 rw [((Goes.done s2).next s1).loop (by omega), Option.bind_some]
end Go.Sh
set_option linter.unusedVariables false
set_option linter.unusedSimpArgs false
namespace Go.Sh
open Go
theorem wordTail_pl (v : List UInt8) : ∀ u : List UInt8, wordTail (u ++ 41 :: v) = wordTail u
 | [] => by simp only [List.nil_append, wordTail]; rw [if_neg (by decide)]
 | c :: r => by simp only [List.cons_append, wordTail, wordTail_pl v r]
theorem numTail_pl (v : List UInt8) (n : Nat) : ∀ u : List UInt8, u.length ≤ n → numTail (u ++ 41 :: v) = numTail u := by
 induction n with
 | zero =>
  intro u h
  have : u = [] := List.length_eq_zero_iff.1 (by omega)
  subst this
  rw [List.nil_append, numTail_cons, if_neg (by rw [show isExp 41 = false by decide]; simp), if_neg (by decide)]; rfl
 | succ n ih =>
  intro u h
  cases u with
  | nil => rw [List.nil_append, numTail_cons, if_neg (by rw [show isExp 41 = false by decide]; simp), if_neg (by decide)]; rfl
  | cons c r =>
   rw [List.length_cons] at h
   rw [List.cons_append, numTail_cons, numTail_cons, ih r (by omega)]
   cases r with
   | nil =>
    rw [List.nil_append, List.headD_cons, List.headD_nil, show isPM 41 = false by decide, show isPM 0 = false by decide]
    simp
   | cons d r2 =>
    rw [List.cons_append, List.headD_cons, List.headD_cons, List.drop_succ_cons, List.drop_zero, List.drop_succ_cons, List.drop_zero, ih r2 (by simp only [List.length_cons] at h; omega)]
theorem prefix_pl (v : List UInt8) : ∀ (p u : List UInt8), (∀ c ∈ p, c ≠ 41) → p.isPrefixOf (u ++ 41 :: v) = p.isPrefixOf u
 | [], u, _ => by simp
 | x :: p, [], h => by simp [List.isPrefixOf, h x (by simp)]
 | x :: p, c :: u, h => by simp only [List.cons_append, List.isPrefixOf, prefix_pl v p u (fun c hc => h c (by simp [hc]))]
theorem quoLen_no (q : UInt8) : ∀ u : List UInt8, u.head? ≠ some q → quoLen q u = 0
 | [], _ => rfl
 | c :: r, h => by rw [quoLen, if_neg (fun e => h (by rw [e]; rfl))]
theorem nextTok_pl (u v : List UInt8) (hu : u ≠ []) (hq : u.head? ≠ some 34 ∧ u.head? ≠ some 39) : nextTok (u ++ 41 :: v) = nextTok u := by
  have h0 : (u ++ 41 :: v).head? = u.head? := by cases u with | nil => exact absurd rfl hu | cons c r => rfl
  have h1 : wordLen (u ++ 41 :: v) = wordLen u := by
    cases u with
    | nil => exact absurd rfl hu
    | cons c r => simp only [List.cons_append, wordLen, wordTail_pl]
  have h2 : numLen (u ++ 41 :: v) = numLen u := by
    cases u with
    | nil => exact absurd rfl hu
    | cons c r =>
      simp only [List.cons_append, numLen, numTail_pl v _ r (Nat.le_refl _)]
      cases r with
      | nil => rw [List.nil_append, List.headD_cons, List.headD_nil, show isDigit 41 = false by decide, show isDigit 0 = false by decide]
      | cons d r2 => rfl
  have h4 : signLen (u ++ 41 :: v) = signLen u := by
    unfold signLen
    rw [any_congr_ three (fun p hp => prefix_pl v p u ((by decide : ∀ p ∈ three, ∀ c ∈ p, c ≠ 41) p hp)), any_congr_ two (fun p hp => prefix_pl v p u ((by decide : ∀ p ∈ two, ∀ c ∈ p, c ≠ 41) p hp)), h0]
  unfold nextTok
  rw [h0, h1, h2, quoLen_no 34 _ (by rw [h0]; exact hq.1), quoLen_no 39 _ (by rw [h0]; exact hq.2), quoLen_no 34 u hq.1, quoLen_no 39 u hq.2, h4]
theorem blankLen_pl (u v : List UInt8) (hu : u ≠ []) (h47 : ∀ c ∈ u, c ≠ 47) : blankLen (u ++ 41 :: v) = blankLen u := by
 cases u with
 | nil => exact absurd rfl hu
 | cons c r =>
  have hc := h47 c (by simp)
  simp only [List.cons_append, blankLen, hc, false_and, if_false]
theorem head_mem {c : UInt8} : ∀ {u : List UInt8}, u.head? = some c → c ∈ u
  | [], h => by cases h
  | d :: r, h => by simp at h; rw [h]; simp
theorem toks_paren (v : List UInt8) (n : Nat) : ∀ (i j : Nat) (b : Bool) (u : List UInt8), u.length ≤ n → (∀ c ∈ u, c ≠ 47 ∧ c ≠ 34 ∧ c ≠ 39) → ∃ i2 b2, (toks i b (u ++ 41 :: v)).map ptk = (toks j b u).map ptk ++ (toks i2 b2 (41 :: v)).map ptk := by
 induction n with
 | zero =>
  intro i j b u h _
  have : u = [] := List.length_eq_zero_iff.1 (by omega)
  subst this
  exact ⟨i, b, by rw [toks_nil]; rfl⟩
 | succ n ih =>
  intro i j b u h h47
  by_cases hu : u = []
  ·subst hu; exact ⟨i, b, by rw [toks_nil]; rfl⟩
  have hu2 : u ++ 41 :: v ≠ [] := by simp
  have hbl := blankLen_pl u v hu (fun c hc => (h47 c hc).1)
  have h48 : ∀ m, ∀ c ∈ u.drop m, c ≠ 47 ∧ c ≠ 34 ∧ c ≠ 39 := fun m c hc => h47 c (List.mem_of_mem_drop hc)
  by_cases hb : 0 < blankLen u
  ·have hle := blankLen_le u
   rw [toks_blank (by omega), toks_blank hb, hbl, List.drop_append_of_le_length hle]
   exact ih _ _ _ _ (by rw [List.length_drop]; omega) (h48 _)
  ·have hp := nextTok_pos u
   have hle := nextTok_le u hu
   rw [toks_tok hu2 (by omega), toks_tok hu (by omega), nextTok_pl u v hu ⟨fun e => (h47 34 (head_mem e)).2.1 rfl, fun e => (h47 39 (head_mem e)).2.2 rfl⟩, List.drop_append_of_le_length hle, List.take_append_of_le_length hle]
   obtain ⟨i2, b2, e⟩ := ih (i + (nextTok u).2) (j + (nextTok u).2) false _ (by rw [List.length_drop]; omega) (h48 (nextTok u).2)
   exact ⟨i2, b2, by rw [List.map_cons, e]; rfl⟩
theorem nextTok_kind (u : List UInt8) (h : u.head? ≠ some 10 ∧ u.head? ≠ some 39) : (nextTok u).1 ≠ 7 ∧ (nextTok u).1 ≠ 3 := by
 unfold nextTok
 rw [if_neg h.1, quoLen_no 39 u h.2]
 split
 ·exact ⟨by show (1 : Int) ≠ 7; omega, by show (1 : Int) ≠ 3; omega⟩
 split
 ·exact ⟨by show (2 : Int) ≠ 7; omega, by show (2 : Int) ≠ 3; omega⟩
 split
 ·exact ⟨by show (4 : Int) ≠ 7; omega, by show (4 : Int) ≠ 3; omega⟩
 rw [if_neg (by omega)]
 split
 ·exact ⟨by show (5 : Int) ≠ 7; omega, by show (5 : Int) ≠ 3; omega⟩
 ·exact ⟨by show (6 : Int) ≠ 7; omega, by show (6 : Int) ≠ 3; omega⟩
theorem toks_kinds (n : Nat) : ∀ (i : Nat) (b : Bool) (u : List UInt8), u.length ≤ n → (∀ c ∈ u, c ≠ 10 ∧ c ≠ 39) → ∀ p ∈ toks i b u, p.kind ≠ 7 ∧ p.kind ≠ 3 := by
  induction n with
  | zero => intro i b u hu _ p hp; have : u = [] := List.length_eq_zero_iff.1 (by omega); subst this; rw [toks_nil] at hp; cases hp
  | succ n ih =>
    intro i b u hu h p hp
    by_cases h0 : u = []
    · subst h0; rw [toks_nil] at hp; cases hp
    have hl : 0 < u.length := List.length_pos_iff.2 h0
    by_cases hb : 0 < blankLen u
    · rw [toks_blank hb] at hp
      exact ih _ _ _ (by rw [List.length_drop]; omega) (fun c hc => h c (List.mem_of_mem_drop hc)) p hp
    · rw [toks_tok h0 (by omega)] at hp
      rcases List.mem_cons.1 hp with rfl | hp
      · exact nextTok_kind u ⟨fun e => (h 10 (head_mem e)).1 rfl, fun e => (h 39 (head_mem e)).2 rfl⟩
      · have := nextTok_pos u
        exact ih _ _ _ (by rw [List.length_drop]; omega) (fun c hc => h c (List.mem_of_mem_drop hc)) p hp
theorem parse_two (l0 l1 : GLine) (h0 : l0.kind = 8) (h1 : l1.kind = 1) : cond_Parse [l0, l1] = some ([{ line_ := 0, end_ := 0, branches := [] }, { line_ := 1, end_ := 1, branches := [] }], 0, 0) := by
 unfold cond_Parse
 rw [chkT (by simp only [List.length_cons, List.length_nil]; omega)]
 simp [parseFrom, parseStep, h0, h1]
theorem bareF_all : ∀ (l : List GTok), (∀ t ∈ l, t.kind ≠ 7) → bareF false l = l.map fun t => GExpand_token.mk t [] false false
 | [], _ => rfl
 | t :: r, h => by
  rw [bareF, if_neg (h t (by simp)), bareF_all r (fun x hx => h x (by simp [hx])), Bool.or_false]
  rfl
theorem oneline_keys {l : GLine} {k : Int} {K : List Key} (h : lk l = (k, K)) : l.kind = k ∧ l.toks.map tk = K := by
 simp only [lk, Prod.mk.injEq] at h; exact h
end Go.Sh
set_option linter.unusedVariables false
set_option linter.unusedSimpArgs false
namespace Go.Sh
open Go
def sD : List UInt8 := [35, 100, 101, 102, 105, 110, 101, 32, 83, 95, 40, 120, 41, 32, 35, 120]
def sS : List UInt8 := [83, 95]
def sM (f1 a1 b1 f2 a2 b2 : Int) : GMacro := GMacro.mk sS true [[120]] false [GTok.mk 5 [35] f1 a1 b1 false, GTok.mk 1 [120] f2 a2 b2 false]
theorem define_S (f : GUnit_file) (files : List GFile) (told : List GTok) (inc x1 x2 x3 y1 y2 y3 z1 z2 z3 w1 w2 w3 f1 a1 b1 f2 a2 b2 : Int) : unit_file_define f (GUnit_run.mk files [] told inc) [GTok.mk 1 sS x1 x2 x3 true, GTok.mk 5 [40] y1 y2 y3 false, GTok.mk 1 [120] z1 z2 z3 false, GTok.mk 5 [41] w1 w2 w3 false, GTok.mk 5 [35] f1 a1 b1 true, GTok.mk 1 [120] f2 a2 b2 false] = some (0, GUnit_run.mk files [(sS, sM f1 a1 b1 f2 a2 b2)] told inc) := by kernel_rfl
theorem xsign_eq (y : GExpand_token) (t : List UInt8) : expand_token_sign y t = some (((!y.mark) && decide (y.tok.kind = 5)) && decide (y.tok.text = t)) := by
 unfold expand_token_sign
 rw [andO_some, Option.bind_some, andO_some, Option.bind_some]
theorem parted_eq (tP tR : GExpand_token) (A : List GExpand_token) (hP : tP.mark = false ∧ tP.tok.kind = 5 ∧ tP.tok.text = [40]) (hR : tR.mark = false ∧ tR.tok.kind = 5 ∧ tR.tok.text = [41]) (hA : ∀ y ∈ A, y.tok.text ≠ [40] ∧ y.tok.text ≠ [41] ∧ y.tok.text ≠ [44]) (hl : A.length ≤ 1000) :
  expand_parted (tP :: (A ++ [tR])) = some ([A], [], (A.length : Int) + 2) := by
 unfold expand_parted
 obtain ⟨o, g1, g2⟩ := loopS_ix (f := expand_parted_b2 (tP :: (A ++ [tR]))) (A.length + 1) (by omega) (fun k s => (k = 0 ∧ s = ((0 : Int), (0 : Int), ([] : List GExpand_token), ([] : List GExpand_token), ([] : List (List GExpand_token)))) ∨ ∃ m, k = m + 1 ∧ s = ((1 : Int), ((m + 1 : Nat) : Int), A.take m, ([] : List GExpand_token), ([] : List (List GExpand_token)))) (fun r => r = .inr ([A], [], (A.length : Int) + 2)) (s0 := ((0 : Int), (0 : Int), ([] : List GExpand_token), ([] : List GExpand_token), ([] : List (List GExpand_token)))) (.inl ⟨rfl, rfl⟩) (by
  rintro k s hk (⟨rfl, rfl⟩ | ⟨m, rfl, rfl⟩)
  ·left
   unfold expand_parted_b2
   simp only
   rw [if_pos (by simp; omega), show ix (tP :: (A ++ [tR])) 0 = some tP from rfl, Option.bind_some, xsign_eq, Option.bind_some, if_pos (by rw [hP.1, hP.2.1, hP.2.2]; rfl), chkT (by omega), if_pos (by decide), chkT (by omega)]
   exact ⟨_, rfl, .inr ⟨0, rfl, rfl⟩⟩
  ·left
   have hm : m < A.length := by omega
   have hx : ix (tP :: (A ++ [tR])) ((m + 1 : Nat) : Int) = some A[m] := by
    rw [ix_nat, List.getElem?_cons_succ, List.getElem?_append_left hm, List.getElem?_eq_getElem hm]
   have hy := hA _ (List.getElem_mem hm)
   unfold expand_parted_b2
   simp only
   rw [if_pos (by simp only [List.length_cons, List.length_append, List.length_nil]; exact decide_eq_true (by omega)), hx, Option.bind_some, xsign_eq, Option.bind_some, if_neg (by simp [hy.1]), xsign_eq, Option.bind_some, if_neg (by simp [hy.2.1]), xsign_eq, Option.bind_some, andO_some, Option.bind_some, if_neg (by simp [hy.2.2])]
   unfold expand_parted_j3
   simp only
   rw [chkT (by rw [List.length_take]; omega), chkT (by omega)]
   refine ⟨_, rfl, .inr ⟨m + 1, rfl, ?_⟩⟩
   rw [List.take_add_one, List.getElem?_eq_getElem hm]
   rfl) (by
  rintro s (⟨h0, _⟩ | ⟨m, hm, rfl⟩)
  ·omega
  ·obtain rfl : m = A.length := by omega
   have hx : ix (tP :: (A ++ [tR])) ((A.length + 1 : Nat) : Int) = some tR := by
    rw [ix_nat, List.getElem?_cons_succ, List.getElem?_append_right (Nat.le_refl _), Nat.sub_self]
    rfl
   refine ⟨_, ?_, rfl⟩
   unfold expand_parted_b2
   simp only
   rw [if_pos (by simp only [List.length_cons, List.length_append, List.length_nil]; exact decide_eq_true (by omega)), hx, Option.bind_some, xsign_eq, Option.bind_some, if_neg (by rw [hR.2.2]; simp), xsign_eq, Option.bind_some, if_pos (by rw [hR.1, hR.2.1, hR.2.2]; rfl), chkT (by omega), if_pos (by decide), chkT (by simp only [List.length_nil]; omega), chkT (by omega), List.take_length]
   have : ((A.length + 1 : Nat) : Int) + 1 = (A.length : Int) + 2 := by push_cast; omega
   rw [this]
   rfl)
 rw [g1, Option.bind_some, g2]
theorem expanded_S (w : GExpand_work) (A : List GExpand_token) (f1 a1 b1 f2 a2 b2 : Int) : expand_work_expanded w (sM f1 a1 b1 f2 a2 b2) [A] = some (([[]], 0), w) := by kernel_rfl
theorem shared_S (A : List GExpand_token) (f1 a1 b1 f2 a2 b2 : Int) : expand_shared (sM f1 a1 b1 f2 a2 b2) [A] [] = some ([A], 0) := by kernel_rfl
theorem quotes_S (f1 a1 b1 f2 a2 b2 : Int) : expand_quotes (sM f1 a1 b1 f2 a2 b2) 0 = some true := by kernel_rfl
theorem place_S0 (f1 a1 b1 f2 a2 b2 : Int) : expand_place (sM f1 a1 b1 f2 a2 b2) 0 = some (-1) := by kernel_rfl
theorem place_S1 (f1 a1 b1 f2 a2 b2 : Int) : expand_place (sM f1 a1 b1 f2 a2 b2) 1 = some 0 := by kernel_rfl
theorem filled_S (A : List GExpand_token) (D : List (List GExpand_token)) (str : List UInt8) (f1 a1 b1 f2 a2 b2 : Int) (hl : A.length ≤ 1000) (hs : glue_String (A.map GExpand_token.tok) = some (GTok.mk 4 str 0 0 0 false)) :
  expand_filled (sM f1 a1 b1 f2 a2 b2) [A] D = some [GExpand_token.mk (GTok.mk 4 str f1 a1 b1 false) [] false false] := by
 unfold expand_filled
 have s1 : expand_filled_b2 (sM f1 a1 b1 f2 a2 b2) [A] D ((0 : Int), ([] : List GExpand_token)) = some (.next ((2 : Int), [GExpand_token.mk (GTok.mk 4 str f1 a1 b1 false) [] false false])) := by
  unfold expand_filled_b2
  simp only
  rw [if_pos (by show decide ((0 : Int) < 2) = true; decide), show ix (sM f1 a1 b1 f2 a2 b2).body 0 = some (GTok.mk 5 [35] f1 a1 b1 false) from rfl, Option.bind_some, place_S0, Option.bind_some, quotes_S, Option.bind_some, if_pos rfl, chkT (by omega), show ((0 : Int) + 1) = 1 from rfl, place_S1, Option.bind_some, show ix [A] 0 = some A from rfl, Option.bind_some, xplain_eq A (by omega), Option.bind_some, hs, Option.bind_some, chkT (by simp only [List.length_nil]; omega), chkT (by omega), chkT (by omega)]
  rfl
 have s2 : expand_filled_b2 (sM f1 a1 b1 f2 a2 b2) [A] D ((2 : Int), [GExpand_token.mk (GTok.mk 4 str f1 a1 b1 false) [] false false]) = some (.done [GExpand_token.mk (GTok.mk 4 str f1 a1 b1 false) [] false false]) := rfl
 rw [((Goes.done s2).next s1).loop (by omega)]
 rfl
theorem pasted_one (t : GTok) : expand_pasted [GExpand_token.mk t [] false false] = some ([GExpand_token.mk t [] false false], 0) := by kernel_rfl
theorem del_one (t : GTok) : delF (fun y => expand_work_comes_c1 y) [GExpand_token.mk t [] false false] = some [GExpand_token.mk t [] false false] := by kernel_rfl
theorem hide_one (t : GTok) (f1 a1 b1 f2 a2 b2 : Int) : loopS (expand_work_comes_b2 (sM f1 a1 b1 f2 a2 b2) [] [GExpand_token.mk t [] false false]) ((0 : Int), [GExpand_token.mk t [] false false]) = some [GExpand_token.mk t [sS] false false] := by kernel_rfl
theorem comes_S (w : GExpand_work) (A : List GExpand_token) (str : List UInt8) (f1 a1 b1 f2 a2 b2 : Int) (hl : A.length ≤ 1000) (hs : glue_String (A.map GExpand_token.tok) = some (GTok.mk 4 str 0 0 0 false)) :
  expand_work_comes w (sM f1 a1 b1 f2 a2 b2) [A] [] = some (([GExpand_token.mk (GTok.mk 4 str f1 a1 b1 false) [sS] false false], 0), w) := by
 unfold expand_work_comes
 rw [expanded_S, Option.bind_some]
 simp only
 rw [if_neg (by simp), filled_S A _ str f1 a1 b1 f2 a2 b2 hl hs, Option.bind_some, pasted_one, Option.bind_some]
 simp only
 rw [if_neg (by simp), chkT (by simp only [List.length_cons, List.length_nil]; omega), del_one, Option.bind_some, hide_one, Option.bind_some]
 rfl
theorem replaced_S (ms : List (List UInt8 × GMacro)) (tS tP tR : GExpand_token) (A : List GExpand_token) (str : List UInt8) (f1 a1 b1 f2 a2 b2 : Int) (hP : tP.mark = false ∧ tP.tok.kind = 5 ∧ tP.tok.text = [40]) (hR : tR.mark = false ∧ tR.tok.kind = 5 ∧ tR.tok.text = [41]) (hA : ∀ y ∈ A, y.tok.text ≠ [40] ∧ y.tok.text ≠ [41] ∧ y.tok.text ≠ [44]) (hl : A.length ≤ 1000) (hS : tS.hide = []) (hs : glue_String (A.map GExpand_token.tok) = some (GTok.mk 4 str 0 0 0 false)) :
  expand_work_replaced (GExpand_work.mk ms 0) (sM f1 a1 b1 f2 a2 b2) (tS :: tP :: (A ++ [tR])) = some (([GExpand_token.mk (GTok.mk 4 str f1 a1 b1 false) [sS] false false], (A.length : Int) + 2, 0), GExpand_work.mk ms 1) := by
 have hx : ix (tS :: tP :: (A ++ [tR])) ((A.length : Int) + 2) = some tR := by
  rw [show (A.length : Int) + 2 = ((A.length + 2 : Nat) : Int) by push_cast; rfl, ix_nat, List.getElem?_cons_succ, List.getElem?_cons_succ, List.getElem?_append_right (Nat.le_refl _), Nat.sub_self]
  rfl
 unfold expand_work_replaced
 rw [show ix (tS :: tP :: (A ++ [tR])) 0 = some tS from rfl, Option.bind_some, if_pos (show (sM f1 a1 b1 f2 a2 b2).func = true from rfl), chkT (by simp only [List.length_cons]; omega), show (tS :: tP :: (A ++ [tR])).drop (1 : Int).toNat = tP :: (A ++ [tR]) from rfl, parted_eq tP tR A hP hR hA hl, Option.bind_some]
 simp only
 rw [if_neg (by simp; omega), hx, Option.bind_some, hS]
 rw [show expand_both [] tR.hide = some [] by kernel_rfl, Option.bind_some]
 unfold expand_work_replaced_j1
 simp only
 rw [if_neg (by simp), chkT (by omega), if_pos (show (sM f1 a1 b1 f2 a2 b2).func = true from rfl), shared_S, Option.bind_some]
 simp only
 rw [if_neg (by simp)]
 unfold expand_work_replaced_j2
 simp only
 rw [comes_S _ A str f1 a1 b1 f2 a2 b2 hl hs, Option.bind_some]
 rfl
theorem expand_S (tS tP tR : GExpand_token) (A : List GExpand_token) (str : List UInt8) (f1 a1 b1 f2 a2 b2 : Int) (hP : tP.mark = false ∧ tP.tok.kind = 5 ∧ tP.tok.text = [40]) (hR : tR.mark = false ∧ tR.tok.kind = 5 ∧ tR.tok.text = [41]) (hA : ∀ y ∈ A, y.tok.text ≠ [40] ∧ y.tok.text ≠ [41] ∧ y.tok.text ≠ [44]) (hl : A.length ≤ 1000) (hS : tS.hide = [] ∧ tS.tok.kind = 1 ∧ tS.tok.text = sS) (hs : glue_String (A.map GExpand_token.tok) = some (GTok.mk 4 str 0 0 0 false)) :
  ∃ h m o, expand_work_expand (GExpand_work.mk [(sS, sM f1 a1 b1 f2 a2 b2)] 0) (tS :: tP :: (A ++ [tR])) = some (([GExpand_token.mk (GTok.mk 4 str f1 a1 b1 tS.tok.blank) h m o], 0), GExpand_work.mk [(sS, sM f1 a1 b1 f2 a2 b2)] 1) := by
 refine ⟨[sS], false, false, ?_⟩
 unfold expand_work_expand
 have hg : getM sS [(sS, sM f1 a1 b1 f2 a2 b2)] = some (sM f1 a1 b1 f2 a2 b2) := by kernel_rfl
 have s1 : expand_work_expand_b2 (tS :: tP :: (A ++ [tR]), ([] : List GExpand_token), GExpand_work.mk [(sS, sM f1 a1 b1 f2 a2 b2)] 0) = some (.next ([GExpand_token.mk (GTok.mk 4 str f1 a1 b1 tS.tok.blank) [sS] false false], ([] : List GExpand_token), GExpand_work.mk [(sS, sM f1 a1 b1 f2 a2 b2)] 1)) := by
  unfold expand_work_expand_b2
  simp only
  rw [if_pos (by simp; omega), show ix (tS :: tP :: (A ++ [tR])) 0 = some tS from rfl, Option.bind_some, hides_nil tS _ hS.1, Option.bind_some, orO_some, Option.bind_some, orO_some, Option.bind_some, show ix (tS :: tP :: (A ++ [tR])) 1 = some tP from rfl, Option.bind_some, xsign_eq, Option.bind_some, orO_some, Option.bind_some, andO_some, Option.bind_some, orO_some, Option.bind_some]
  rw [if_neg (by rw [hS.2.1, hS.2.2, hg, hP.1, hP.2.1, hP.2.2]; simp; omega), hS.2.2, hg, Option.getD_some, replaced_S _ tS tP tR A str f1 a1 b1 f2 a2 b2 hP hR hA hl hS.1 hs, Option.bind_some]
  simp only
  rw [if_neg (by simp), chkT (by omega), chkT (by simp only [List.length_cons, List.length_append, List.length_nil]; omega), if_pos (by simp)]
  have hd : (tS :: tP :: (A ++ [tR])).drop ((A.length : Int) + 2 + 1).toNat = [] := by
   apply List.drop_eq_nil_of_le
   simp only [List.length_cons, List.length_append, List.length_nil]
   omega
  rw [hd, show ∀ z : GExpand_token, ix [z] 0 = some z from fun _ => rfl, Option.bind_some]
  unfold expand_work_expand_j3
  simp only
  rw [concatK_eq _ [] (by simp), Option.bind_some]
  rfl
 have s2 : expand_work_expand_b2 ([GExpand_token.mk (GTok.mk 4 str f1 a1 b1 tS.tok.blank) [sS] false false], ([] : List GExpand_token), GExpand_work.mk [(sS, sM f1 a1 b1 f2 a2 b2)] 1) = some (.next (([] : List GExpand_token), [GExpand_token.mk (GTok.mk 4 str f1 a1 b1 tS.tok.blank) [sS] false false], GExpand_work.mk [(sS, sM f1 a1 b1 f2 a2 b2)] 1)) := by
  unfold expand_work_expand_b2
  simp only
  rw [if_pos (by simp), show ∀ z : GExpand_token, ix [z] 0 = some z from fun _ => rfl, Option.bind_some]
  simp only
  have ot : ∀ x, orO true x = some true := fun _ => rfl
  rw [show (!decide ((4 : Int) = 1)) = true from rfl, ot, Option.bind_some, ot, Option.bind_some, ot, Option.bind_some, if_pos rfl, chkT (by simp only [List.length_nil]; omega), if_neg (by simp), chkT (by simp)]
  rfl
 have s3 : expand_work_expand_b2 (([] : List GExpand_token), [GExpand_token.mk (GTok.mk 4 str f1 a1 b1 tS.tok.blank) [sS] false false], GExpand_work.mk [(sS, sM f1 a1 b1 f2 a2 b2)] 1) = some (.done (.inl ([GExpand_token.mk (GTok.mk 4 str f1 a1 b1 tS.tok.blank) [sS] false false], GExpand_work.mk [(sS, sM f1 a1 b1 f2 a2 b2)] 1))) := rfl
 rw [(((Goes.done s3).next s2).next s1).loop (by omega)]
 rfl
theorem Expand_S (tS tP tR : GTok) (A : List GTok) (str : List UInt8) (f1 a1 b1 f2 a2 b2 : Int) (hP : tP.kind = 5 ∧ tP.text = [40]) (hR : tR.kind = 5 ∧ tR.text = [41]) (hA : ∀ y ∈ A, y.text ≠ [40] ∧ y.text ≠ [41] ∧ y.text ≠ [44]) (h7 : ∀ y ∈ A, y.kind ≠ 7) (hl : A.length ≤ 1000) (hS : tS.kind = 1 ∧ tS.text = sS) (hs : glue_String A = some (GTok.mk 4 str 0 0 0 false)) :
  expand_Expand [sM f1 a1 b1 f2 a2 b2] (tS :: tP :: (A ++ [tR])) = some ([GTok.mk 4 str f1 a1 b1 tS.blank], 0) := by
 have e : expand_Expand [sM f1 a1 b1 f2 a2 b2] (tS :: tP :: (A ++ [tR])) = expand_Expand_k2 (tS :: tP :: (A ++ [tR])) (GExpand_work.mk [(sS, sM f1 a1 b1 f2 a2 b2)] 0) := by kernel_rfl
 rw [e]
 unfold expand_Expand_k2
 rw [bare_eq _ (by simp only [List.length_cons, List.length_append, List.length_nil]; omega), Option.bind_some, bareF_all _ (by
  intro t ht
  simp only [List.mem_cons, List.mem_append, List.not_mem_nil, or_false] at ht
  rcases ht with rfl | rfl | ht | rfl
  ·rw [hS.1]; omega
  ·rw [hP.1]; omega
  ·exact h7 t ht
  ·rw [hR.1]; omega)]
 rw [List.map_cons, List.map_cons, List.map_append, List.map_singleton]
 obtain ⟨h, m, o, g⟩ := expand_S (GExpand_token.mk tS [] false false) (GExpand_token.mk tP [] false false) (GExpand_token.mk tR [] false false) (A.map fun t => GExpand_token.mk t [] false false) str f1 a1 b1 f2 a2 b2 ⟨rfl, hP.1, hP.2⟩ ⟨rfl, hR.1, hR.2⟩ (by
  intro y hy
  obtain ⟨z, hz, rfl⟩ := List.mem_map.1 hy
  exact hA z hz) (by rw [List.length_map]; exact hl) ⟨rfl, hS.1, hS.2⟩ (by
  rw [List.map_map, show (GExpand_token.tok ∘ fun t => GExpand_token.mk t [] false false) = id from rfl, List.map_id]; exact hs)
 rw [g, Option.bind_some, xplain_eq _ (by simp), Option.bind_some]
 rfl
end Go.Sh
set_option linter.unusedVariables false
set_option linter.unusedSimpArgs false
namespace Go.Sh
open Go
theorem text_single {f : GUnit_file} {run : GUnit_run} {l : List GItem} {ns : List (List UInt8)} {ms : List GMacro} {toks : List GTok} {t : GTok} {y : GItem} (hn : unit_run_names run = some (ns, ms)) (he : expand_Expand ms toks = some ([t], 0)) (h0 : run.told = []) (hy : ix l 0 = some y) :
  unit_file_text_j1 f run l toks = some (none, GUnit_run.mk run.files run.macros [GTok.mk t.kind t.text t.file_ t.from_ t.to true] run.includes) := by
 unfold unit_file_text_j1
 rw [hn, Option.bind_some, he, Option.bind_some, h0]
 simp only [List.length_nil, List.length_cons]
 rw [chkT (by omega), andO_some, Option.bind_some, if_neg (by simp)]
 unfold unit_file_text_j4
 simp only
 rw [if_pos (by simp), show ix [t] 0 = some t from rfl, Option.bind_some]
 unfold unit_file_text_j5
 rw [h0, chkT (by simp), hy, Option.bind_some, show unit_file_wrong f y.line_ 0 = some none from rfl, Option.bind_some]
 rfl
theorem cons_tok {l : List GTok} {k : Int} {t : List UInt8} {b : Bool} {K : List Key} (h : l.map tk = (k, t, b) :: K) : ∃ x p q r, l = GTok.mk k t x p q b :: r ∧ r.map tk = K := by
 obtain ⟨y, r, rfl, e, e2⟩ := List.map_eq_cons_iff.1 h
 obtain ⟨k', t', x, p, q, b'⟩ := y
 simp only [tk, Prod.mk.injEq] at e
 obtain ⟨rfl, rfl, rfl⟩ := e
 exact ⟨x, p, q, r, rfl, e2⟩
theorem same_keys {l l' : List GTok} (h : l.map tk = l'.map tk) {x : GTok} (hx : x ∈ l) : ∃ y ∈ l', y.kind = x.kind ∧ y.text = x.text ∧ y.blank = x.blank := by
 have : tk x ∈ l'.map tk := by rw [← h]; exact List.mem_map_of_mem hx
 obtain ⟨y, hy, e⟩ := List.mem_map.1 this
 simp only [tk, Prod.mk.injEq] at e
 exact ⟨y, hy, e⟩
theorem printT_tk : ∀ {l l' : List GTok}, l.map tk = l'.map tk → printT l = printT l'
  | [], [], _ => rfl
  | [], _ :: _, h => by cases h
  | _ :: _, [], h => by cases h
  | a :: l, b :: l', h => by
    rw [List.map_cons, List.map_cons, List.cons.injEq] at h
    have e := h.1
    simp only [tk, Prod.mk.injEq] at e
    have := printT_tk h.2
    unfold printT at this ⊢
    rw [List.flatMap_cons, List.flatMap_cons, this]
    unfold printOne
    rw [e.2.1, e.2.2]
theorem joinText_tk : ∀ {l l' : List GTok} (bl sm : Bool), l.map tk = l'.map tk → joinF GTok.text bl sm l = joinF GTok.text bl sm l'
  | [], [], _, _, _ => rfl
  | [], _ :: _, _, _, h => by cases h
  | _ :: _, [], _, _, h => by cases h
  | a :: l, b :: l', bl, sm, h => by
    rw [List.map_cons, List.map_cons, List.cons.injEq] at h
    have e := h.1
    simp only [tk, Prod.mk.injEq] at e
    rw [joinF, joinF, e.1, e.2.1, e.2.2, joinText_tk true sm h.2, joinText_tk false true h.2]
theorem keys_sD : (tokens 0 sD).map tk = [(5, [35], false), (1, [100, 101, 102, 105, 110, 101], false), (1, sS, true), (5, [40], false), (1, [120], false), (5, [41], false), (5, [35], true), (1, [120], false)] := closed_keys (by decide) (by kernel_rfl)
def callOf (s : List UInt8) : List UInt8 := 83 :: 95 :: 40 :: (s ++ [41])
theorem toks_S (w : List UInt8) (b : Bool) : (toks 0 b (83 :: 95 :: 40 :: w)).map ptk = (1, sS, b) :: (5, [40], false) :: (toks 3 false w).map ptk := by
 have n1 : nextTok (83 :: 95 :: 40 :: w) = (1, 2) := by kernel_rfl
 have n2 : nextTok (40 :: w) = (5, 1) := by kernel_rfl
 rw [toks_tok (List.cons_ne_nil _ _) (by kernel_rfl), n1, List.map_cons]
 have e : (83 :: 95 :: 40 :: w : List UInt8).drop 2 = 40 :: w := rfl
 simp only [e]
 rw [toks_tok (List.cons_ne_nil _ _) (by kernel_rfl), n2, List.map_cons]
 rfl
theorem keys_call (s : List UInt8) (h : ∀ c ∈ s, c ≠ 92 ∧ c ≠ 47 ∧ c ≠ 34 ∧ c ≠ 39) : ∃ b, (tokens 0 (callOf s)).map tk = (1, sS, false) :: (5, [40], false) :: ((tokens 0 s).map tk ++ [(5, [41], b)]) := by
 have n92 : ∀ c ∈ callOf s, c ≠ 92 := by
  intro c hc
  simp only [callOf, List.mem_cons, List.mem_append, List.not_mem_nil, or_false] at hc
  rcases hc with rfl | rfl | rfl | hc | rfl
  ·decide
  ·decide
  ·decide
  ·exact (h c hc).1
  ·decide
 obtain ⟨i2, b2, e⟩ := toks_paren [] s.length 3 0 false s (Nat.le_refl _) (fun c hc => (h c hc).2)
 refine ⟨b2, ?_⟩
 have n3 : nextTok [41] = (5, 1) := by kernel_rfl
 rw [tokens_no92 0 _ n92, tokens_no92 0 s (fun c hc => (h c hc).1), callOf, toks_S, e, toks_tok (List.cons_ne_nil _ _) (by kernel_rfl), n3]
 rw [List.map_cons]
 have e0 : ([41] : List UInt8).drop 1 = [] := rfl
 simp only [e0]
 rw [toks_nil]
 rfl
def strText (s : List UInt8) : List UInt8 := sD ++ 10 :: (callOf s ++ 10 :: [])
theorem str_lines (s : List UInt8) (h : ∀ c ∈ s, c ≠ 92 ∧ c ≠ 47 ∧ c ≠ 34 ∧ c ≠ 39 ∧ c ≠ 10) : ∃ b, (linesOf (tokens 0 (strText s))).map lk = [(8, [(1, sS, true), (5, [40], false), (1, [120], false), (5, [41], false), (5, [35], true), (1, [120], false)]), (1, (1, sS, false) :: (5, [40], false) :: ((tokens 0 s).map tk ++ [(5, [41], b)]))] := by
 have c92 : ∀ c ∈ callOf s, c ≠ 92 ∧ c ≠ 47 := by
  intro c hc
  simp only [callOf, List.mem_cons, List.mem_append, List.not_mem_nil, or_false] at hc
  rcases hc with rfl | rfl | rfl | hc | rfl
  ·decide
  ·decide
  ·decide
  ·exact ⟨(h c hc).1, (h c hc).2.1⟩
  ·decide
 have n2 : ∀ c ∈ callOf s ++ 10 :: [], c ≠ 92 := by
  intro c hc
  simp only [List.mem_append, List.mem_cons, List.not_mem_nil, or_false] at hc
  rcases hc with hc | rfl
  ·exact (c92 c hc).1
  ·decide
 have n1 : ∀ c ∈ sD ++ 10 :: (callOf s ++ 10 :: []), c ≠ 92 := by
  intro c hc
  rcases List.mem_append.1 hc with hc | hc
  ·exact (show ∀ c ∈ sD, c ≠ 92 by decide) c hc
  ·rcases List.mem_cons.1 hc with rfl | hc
   ·decide
   ·exact n2 c hc
 obtain ⟨b1, e1⟩ := tokens_cut 0 0 0 sD _ n1 (by decide)
 obtain ⟨b2, e2⟩ := tokens_cut 0 0 0 (callOf s) _ n2 (fun c hc => (c92 c hc).2)
 obtain ⟨b, e3⟩ := keys_call s (fun c hc => ⟨(h c hc).1, (h c hc).2.1, (h c hc).2.2.1, (h c hc).2.2.2.1⟩)
 refine ⟨b, ?_⟩
 have e0 : (tokens 0 ([] : List UInt8)).map tk = [] := closed_keys (by decide) (by kernel_rfl)
 have h7 : ∀ x ∈ (1, sS, false) :: (5, [40], false) :: ((tokens 0 s).map tk ++ [(5, [41], b)]), x.1 ≠ 7 := by
  intro x hx
  simp only [List.mem_cons, List.mem_append, List.not_mem_nil, or_false] at hx
  rcases hx with rfl | rfl | hx | rfl
  ·show (1 : Int) ≠ 7; omega
  ·show (5 : Int) ≠ 7; omega
  ·rw [tokens_no92 0 s (fun c hc => (h c hc).1)] at hx
   obtain ⟨p, hp, rfl⟩ := List.mem_map.1 hx
   exact (toks_kinds s.length 0 false s (Nat.le_refl _) (fun c hc => ⟨(h c hc).2.2.2.2, (h c hc).2.2.2.1⟩) p hp).1
  ·show (5 : Int) ≠ 7; omega
 rw [lines_keys]
 unfold strText
 rw [e1, e2, e0, e3, keys_sD, cutK_app _ rfl _ _ _ (by decide), cutK_app _ rfl _ _ _ h7]
 rfl
theorem str_run (s : List UInt8) (h : ∀ c ∈ s, c ≠ 92 ∧ c ≠ 47 ∧ c ≠ 34 ∧ c ≠ 39 ∧ c ≠ 10 ∧ c ≠ 40 ∧ c ≠ 41 ∧ c ≠ 44) (hl : s.length ≤ 100) (h6 : ∀ x ∈ tokens 0 s, x.kind ≠ 6) :
  ∃ t : GTok, unit_Run [GFile.mk [97, 46, 99] (strText s)] [97, 46, 99] [] = some ([t], GFault.mk 0 0 0) ∧ unquote t.text = (joinF GTok.text false false (tokens 0 s), true) ∧ t.text.length ≤ 1000000 := by
 obtain ⟨b, e⟩ := str_lines s (fun c hc => ⟨(h c hc).1, (h c hc).2.1, (h c hc).2.2.1, (h c hc).2.2.2.1, (h c hc).2.2.2.2.1⟩)
 have hsl : (strText s).length ≤ 300 := by
  unfold strText callOf
  simp only [List.length_append, List.length_cons, List.length_nil, sD]
  omega
 have et := tokens_eq 0 (strText s) (by omega)
 have hlt := tokens_len 0 (strText s)
 have el := lines_eq (tokens 0 (strText s)) (by omega)
 obtain ⟨l0, r0, e0, k0, e⟩ := List.map_eq_cons_iff.1 e
 obtain ⟨l1, e1, k1⟩ := List.map_eq_singleton_iff.1 e
 rw [e0, e1] at el
 obtain ⟨k0, t0⟩ := oneline_keys k0
 obtain ⟨k1, t1⟩ := oneline_keys k1
 have hp := parse_two l0 l1 k0 k1
 obtain ⟨x1, x2, x3, q1, t0, c1⟩ := cons_tok t0
 obtain ⟨y1, y2, y3, q2, d1, c2⟩ := cons_tok c1
 obtain ⟨z1, z2, z3, q3, d2, c3⟩ := cons_tok c2
 obtain ⟨w1, w2, w3, q4, d3, c4⟩ := cons_tok c3
 obtain ⟨f1, a1, b1, q5, d4, c5⟩ := cons_tok c4
 obtain ⟨f2, a2, b2, q6, d5, c6⟩ := cons_tok c5
 have d6 := List.map_eq_nil_iff.1 c6
 rw [d1, d2, d3, d4, d5, d6] at t0
 obtain ⟨s1, s2, s3, p1, t1, c7⟩ := cons_tok t1
 obtain ⟨v1, v2, v3, p2, d7, c8⟩ := cons_tok c7
 obtain ⟨A, p3, d8, hA, u2⟩ := List.map_eq_append_iff.1 c8
 obtain ⟨o1, o2, o3, q9, d9, c9⟩ := cons_tok u2
 have d10 := List.map_eq_nil_iff.1 c9
 rw [d7, d8, d9, d10] at t1
 -- what stands in A
 have hlA : A.length ≤ 100 := by
  have := congrArg List.length hA
  have h2 := tokens_len 0 s
  simp only [List.length_map] at this
  omega
 have hin : ∀ y ∈ tokens 0 s, ∀ c ∈ y.text, c ∈ s := by
  intro y hy
  have : tk y ∈ (tokens 0 s).map tk := List.mem_map_of_mem hy
  rw [tokens_no92 0 s (fun c hc => (h c hc).1)] at this
  obtain ⟨p, hp, e⟩ := List.mem_map.1 this
  have e2 : p.text = y.text := by simp only [ptk, tk, Prod.mk.injEq] at e; exact e.2.1
  rw [← e2]
  exact toks_in0 s.length 0 false s (Nat.le_refl _) p hp
 have hk7 : ∀ y ∈ tokens 0 s, y.kind ≠ 7 := by
  intro y hy
  have : tk y ∈ (tokens 0 s).map tk := List.mem_map_of_mem hy
  rw [tokens_no92 0 s (fun c hc => (h c hc).1)] at this
  obtain ⟨p, hp, e⟩ := List.mem_map.1 this
  have e2 : p.kind = y.kind := by simp only [ptk, tk, Prod.mk.injEq] at e; exact e.1
  rw [← e2]
  exact (toks_kinds s.length 0 false s (Nat.le_refl _) (fun c hc => ⟨(h c hc).2.2.2.2.1, (h c hc).2.2.2.1⟩) p hp).1
 have hA1 : ∀ y ∈ A, y.text ≠ [40] ∧ y.text ≠ [41] ∧ y.text ≠ [44] := by
  intro y hy
  obtain ⟨z, hz, e1, e2, e3⟩ := same_keys hA hy
  rw [← e2]
  refine ⟨fun e => ?_, fun e => ?_, fun e => ?_⟩
  ·exact (h 40 (hin z hz 40 (by rw [e]; simp))).2.2.2.2.2.1 rfl
  ·exact (h 41 (hin z hz 41 (by rw [e]; simp))).2.2.2.2.2.2.1 rfl
  ·exact (h 44 (hin z hz 44 (by rw [e]; simp))).2.2.2.2.2.2.2 rfl
 have hA7 : ∀ y ∈ A, y.kind ≠ 7 := by
  intro y hy
  obtain ⟨z, hz, e1, e2, e3⟩ := same_keys hA hy
  rw [← e1]; exact hk7 z hz
 have hAP : ∀ x ∈ A, PlainTok x.kind x.text ∧ x.kind ≠ 6 := by
  intro y hy
  obtain ⟨z, hz, e1, e2, e3⟩ := same_keys hA hy
  rw [← e1, ← e2]; exact ⟨tokens_plain 0 s z hz, h6 z hz⟩
 have hroom := tokens_room 0 s
 rw [← printT_tk hA] at hroom
 have htx : ∀ x ∈ A, x.text.length ≤ 2000000000 := by
  intro x hx
  have e1 : (printT [x]).length ≤ (printT A).length := printT_sub1 hx
  have e2 : x.text.length ≤ (printT [x]).length := by simp [printT, printOne]
  omega
 have jb1 := joinF_len escOf escOf_len A false false
 have hstr := string_eq A (by omega) htx (by omega)
 obtain ⟨E, hE⟩ : ∃ E, E = joinF escOf false false A := ⟨_, rfl⟩
 rw [← hE] at hstr
 have hx := Expand_S (GTok.mk 1 sS s1 s2 s3 false) (GTok.mk 5 [40] v1 v2 v3 false) (GTok.mk 5 [41] o1 o2 o3 b) A (34 :: (E ++ [34])) f1 a1 b1 f2 a2 b2 ⟨rfl, rfl⟩ ⟨rfl, rfl⟩ hA1 hA7 (by omega) ⟨rfl, rfl⟩ hstr
 refine ⟨GTok.mk 4 (34 :: (E ++ [34])) f1 a1 b1 true, ?_, ?_, ?_⟩
 ·generalize hf : strText s = T at *
  have hfd : unit_Find [GFile.mk [97, 46, 99] T] [97, 46, 99] = some 0 := by kernel_rfl
  refine run_of (run := GUnit_run.mk [GFile.mk [97, 46, 99] T] [(sS, sM f1 a1 b1 f2 a2 b2)] [GTok.mk 4 (34 :: (E ++ [34])) f1 a1 b1 true] 0) (e := none) hfd (by omega) ?_
  refine file_step (R := unitN 39) (run := GUnit_run.mk [GFile.mk [97, 46, 99] T] [] [] 0) (number := 0) (deep := 1) (y := GFile.mk [97, 46, 99] T) rfl et el hp ?_
  have hx0 : ix [l0, l1] 0 = some l0 := rfl
  have hx1 : ix [l0, l1] 1 = some l1 := rfl
  have d0 : (unitN 38).unit_file_directive (GUnit_file.mk 0 [l0, l1] 1) (GUnit_run.mk [GFile.mk [97, 46, 99] T] [] [] 0) 0 = some (none, GUnit_run.mk [GFile.mk [97, 46, 99] T] [(sS, sM f1 a1 b1 f2 a2 b2)] [] 0) := by
   refine dir_define (R := unitN 37) (f := GUnit_file.mk 0 [l0, l1] 1) (line := 0) (ln := l0) hx0 k0 ?_
   rw [t0]
   exact define_S _ _ _ _ _ _ _ _ _ _ _ _ _ _ _ _ _ _ _ _ _ _
  have d1 : unit_file_text (GUnit_file.mk 0 [l0, l1] 1) (GUnit_run.mk [GFile.mk [97, 46, 99] T] [(sS, sM f1 a1 b1 f2 a2 b2)] [] 0) [{ line_ := 1, end_ := 1, branches := [] }] = some (none, GUnit_run.mk [GFile.mk [97, 46, 99] T] [(sS, sM f1 a1 b1 f2 a2 b2)] [GTok.mk 4 (34 :: (E ++ [34])) f1 a1 b1 true] 0) := by
   rw [text_one (ln := l1) hx1 (by rw [t1]; simp only [List.length_cons, List.length_append, List.length_nil]; omega), t1]
   exact text_single (ns := [sS]) (ms := [sM f1 a1 b1 f2 a2 b2]) (by kernel_rfl) hx rfl rfl
  have g1 := item_dir (R := unitN 38) (f := GUnit_file.mk 0 [l0, l1] 1) (L := [{ line_ := 0, end_ := 0, branches := [] }, { line_ := 1, end_ := 1, branches := [] }]) (i := 0) (ln := l0) rfl (by simp) (by omega) (by omega) rfl hx0 (by rw [k0]; omega) d0
  have g2 := item_text (R := unitN 38) (f := GUnit_file.mk 0 [l0, l1] 1) (L := [{ line_ := 0, end_ := 0, branches := [] }, { line_ := 1, end_ := 1, branches := [] }]) (i := 1) (by simp) (by simp) (by
   intro j j1 j2
   simp only [List.length_cons, List.length_nil] at j2
   obtain rfl : j = 1 := by omega
   exact ⟨_, l1, rfl, rfl, hx1, k1⟩) d1
  exact items_of (((Goes.done items_end).next g2).next g1) (by omega)
 ·have hEl : (34 :: (E ++ [34]) : List UInt8).length = E.length + 2 := by simp
  unfold unquote
  have hlast : (34 :: (E ++ [34]) : List UInt8)[(34 :: (E ++ [34]) : List UInt8).length - 1]? = some 34 := by
   rw [← List.getLast?_eq_getElem?, ← List.cons_append, List.getLast?_append]; rfl
  simp only
  rw [if_pos ⟨by omega, rfl, hlast⟩, hEl]
  have : ((34 :: (E ++ [34]) : List UInt8).drop 1).take (E.length + 2 - 2) = E := by
   rw [List.drop_succ_cons, List.drop_zero, Nat.add_sub_cancel, List.take_left']; rfl
  rw [this, hE, unq_join A false false hAP, joinText_tk false false hA]
 ·show (34 :: (E ++ [34])).length ≤ 1000000
  rw [List.length_cons, List.length_append, hE]
  simp only [List.length_cons, List.length_nil]
  omega
theorem strText_eq (s : List UInt8) : (emendtop_TopStrings_l0 ++ s) ++ [41, 10] = strText s := by
 simp [strText, callOf, sD, emendtop_TopStrings_l0]
theorem topStrings_law (s : List UInt8) (hs : s.length ≤ 2000000) : emendtop_TopStrings s = some true := by
 unfold emendtop_TopStrings
 rw [alive_is, Option.bind_some, plain_eq s 100 _ (by omega) (by decide), Option.bind_some]
 by_cases h : (s.length : Int) ≤ 100 ∧ ∀ c ∈ s, c ∉ ([35, 92, 40, 41, 44, 34, 39, 47, 10] : List UInt8)
 ·rw [decide_eq_true h]
  have hl : s.length ≤ 100 := by omega
  have hlt := tokens_len 0 s
  rw [tokens_eq 0 s (by omega), Option.bind_some, orO_some, Option.bind_some]
  by_cases h0 : (tokens 0 s).length = 0
  ·rw [if_pos (by rw [h0]; rfl)]
  rw [if_neg (by simp; exact fun e => h0 (by rw [e]; rfl))]
  have hloop := loopS_find (f := emendtop_TopStrings_b2 true (tokens 0 s)) (tokens 0 s) (fun x => x.kind == 6) true (by omega) (fun k hk => by
   unfold emendtop_TopStrings_b2
   rw [if_pos (decide_eq_true (by omega)), ix_at hk, Option.bind_some]
   by_cases h : (tokens 0 s)[k].kind = 6
   ·rw [if_pos (decide_eq_true h), if_pos (by rw [h]; rfl)]
   ·rw [if_neg (by simpa using h), if_neg (by simpa using h), chkT (by omega)]; rfl) (by
   unfold emendtop_TopStrings_b2
   exact if_neg (by simp))
  rw [hloop, Option.bind_some]
  by_cases hany : (tokens 0 s).any (fun x => x.kind == 6) = true
  ·rw [if_pos hany]
  rw [if_neg hany]
  have hP : ∀ x ∈ tokens 0 s, x.kind ≠ 6 := fun x hx h => hany (List.any_eq_true.2 ⟨x, hx, by simp [h]⟩)
  obtain ⟨t, g1, g2, g3⟩ := str_run s (fun c hc => by
   have := h.2 c hc
   simp only [List.mem_cons, List.not_mem_nil, or_false, not_or] at this
   obtain ⟨h1, h2, h3, h4, h5, h6, h7, h8, h9⟩ := this
   exact ⟨h2, h8, h6, h7, h9, h3, h4, h5⟩) hl hP
  show emendtop_TopStrings_j1 s true (tokens 0 s) () = some true
  unfold emendtop_TopStrings_j1
  rw [chkT (by simp only [emendtop_TopStrings_l0, List.length_cons, List.length_nil]; omega), chkT (by simp only [List.length_append, emendtop_TopStrings_l0, List.length_cons, List.length_nil]; omega)]
  rw [show emendtop_one ((emendtop_TopStrings_l0 ++ s) ++ [41, 10]) = some [GFile.mk [97, 46, 99] ((emendtop_TopStrings_l0 ++ s) ++ [41, 10])] from rfl, Option.bind_some, strText_eq, g1, Option.bind_some]
  simp only
  have hroom := tokens_room 0 s
  have b2 := joinF_len GTok.text (fun t => by omega) (tokens 0 s) false false
  rw [orO_some, Option.bind_some, if_neg (by simp), show ix [t] 0 = some t from rfl, Option.bind_some, unquote_eq _ (by omega), Option.bind_some, g2, text_eq _ (by omega) (by omega), Option.bind_some]
  simp only
  rw [andO_some, Option.bind_some, andO_some, Option.bind_some]
  simp
 ·rw [decide_eq_false h]
  rw [tokens_eq 0 s hs, Option.bind_some, orO_some, Option.bind_some, if_pos (by simp)]
end Go.Sh
