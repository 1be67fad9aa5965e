/-
  What a line includes, in plain words. No program in sight.
-/
import Derived.Test.YtghnfeflknfclaaDoorC1
set_option linter.unusedVariables false
set_option linter.unusedSimpArgs false
namespace Go.Sh
open Go
def isS (s : List UInt8) (t : GTok) : Bool := t.kind == 5 && @BEq.beq _ instBEqOfDecidableEq t.text s
def nameOf : List GTok → List UInt8
  | [] => []
  | t :: r => t.text ++ printT r
theorem nameOf_snoc (l : List GTok) (t : GTok) : nameOf (l ++ [t]) = if t.blank = true ∧ 0 < l.length then (nameOf l ++ [32]) ++ t.text else nameOf l ++ t.text := by
  cases l with
  | nil => rw [if_neg (by simp)]; simp [nameOf, printT]
  | cons u r =>
    have : printT (r ++ [t]) = printT r ++ printOne t := by unfold printT; rw [List.flatMap_append]; simp
    simp only [List.cons_append, nameOf, this, printOne]
    by_cases hb : t.blank = true
    · rw [if_pos hb, if_pos ⟨hb, by simp⟩]; simp
    · rw [if_neg hb, if_neg (fun h => hb h.1)]; simp
theorem printT_sub {l1 l2 : List GTok} (h : l1.Sublist l2) : (printT l1).length ≤ (printT l2).length := by
  induction h with
  | slnil => exact Nat.le_refl _
  | cons a h ih => unfold printT at *; rw [List.flatMap_cons, List.length_append]; omega
  | cons_cons a h ih => unfold printT at *; rw [List.flatMap_cons, List.flatMap_cons, List.length_append, List.length_append]; omega
theorem nameOf_le (l : List GTok) : (nameOf l).length ≤ (printT l).length := by
  cases l with
  | nil => exact Nat.le_refl _
  | cons t r =>
    have : printT (t :: r) = printOne t ++ printT r := by unfold printT; rw [List.flatMap_cons]
    rw [this]; unfold nameOf printOne
    simp only [List.length_append]; omega
abbrev T3 := List UInt8 × Bool × Int
def midOf (l : List GTok) : List GTok := (l.drop 1).take (l.length - 2)
def targetOf (l : GLine) : T3 :=
  if l.kind ≠ 10 then ([], false, 1)
  else match l.toks with
    | [] => ([], false, 40)
    | [t] => if t.kind = 4 ∧ 2 ≤ t.text.length then ((t.text.drop 1).take (t.text.length - 2), false, 0) else ([], false, 40)
    | t :: u :: r => if 3 ≤ (t :: u :: r).length ∧ isS [60] t = true ∧ isS [62] ((t :: u :: r)[(t :: u :: r).length - 1]'(by simp)) = true ∧ (midOf (t :: u :: r)).any (isS [62]) = false then (nameOf (midOf (t :: u :: r)), true, 0) else ([], false, 40)
theorem isS_eq (t : GTok) (s : List UInt8) : direct_sign t s = some (isS s t) := by
  unfold direct_sign isS; simp only [chkB, andB, orB, condAnd, condOr, iteB, neqB, nltB, nleB, m8_9, m8_10, m8_11, m8_12, m8_13, m8_32, m8_34, m8_35, m8_39, m8_40, m8_41, m8_42, m8_43, m8_44, m8_45, m8_46, m8_47, m8_48, m8_60, m8_62, m8_64, m8_65, m8_67, m8_69, m8_80, m8_90, m8_92, m8_95, m8_97, m8_101, m8_112, m8_122, m8, orO_some, andO_some, Option.bind_some, getD_drop]
theorem target_loop (l : GLine) (m : List GTok) (hm : m = midOf l.toks) (h2 : 2 ≤ l.toks.length) (hl : l.toks.length ≤ 2000000) (hp : (printT l.toks).length ≤ 2000000) :
    loopS (direct_Target_b2 l) ([], 0) = some (if m.any (isS [62]) = true then .inr ([], false, 40) else .inl (nameOf m)) := by
  have hml : m.length = l.toks.length - 2 := by rw [hm]; unfold midOf; rw [List.length_take, List.length_drop]; omega
  have hms : m.Sublist l.toks := by rw [hm]; unfold midOf; exact (List.take_sublist _ _).trans (List.drop_sublist _ _)
  have hmid : (l.toks.drop (1 : Int).toNat).take (((l.toks.length : Int) - 1).toNat - (1 : Int).toNat) = m := by
    rw [hm]; unfold midOf; rw [Int.toNat_one, show ((l.toks.length : Int) - 1).toNat - 1 = l.toks.length - 2 by omega]
  obtain ⟨r, h1, rfl⟩ := loopS_ix (f := direct_Target_b2 l) m.length (by omega) (fun k x => x.2 = (k : Int) ∧ x.1 = nameOf (m.take k) ∧ (m.take k).any (isS [62]) = false) (fun r => r = if m.any (isS [62]) = true then .inr ([], false, 40) else .inl (nameOf m)) (s0 := (([] : List UInt8), (0 : Int))) ⟨rfl, rfl, rfl⟩ (by
    rintro k ⟨nm, i⟩ hk ⟨e1, e2, e3⟩
    simp only at e1 e2; subst e1; subst e2
    have ht : m.take (k + 1) = m.take k ++ [m[k]] := by rw [List.take_add_one, List.getElem?_eq_getElem hk]; rfl
    have hn := nameOf_le (m.take (k + 1))
    have hn2 := printT_sub (((List.take_sublist (k + 1) m)).trans hms)
    rw [ht] at hn2
    rw [ht, nameOf_snoc] at hn
    unfold direct_Target_b2 direct_Target_j3
    simp only [hmid, chkB, andB, orB, condAnd, condOr, iteB, neqB, nltB, nleB, m8_9, m8_10, m8_11, m8_12, m8_13, m8_32, m8_34, m8_35, m8_39, m8_40, m8_41, m8_42, m8_43, m8_44, m8_45, m8_46, m8_47, m8_48, m8_60, m8_62, m8_64, m8_65, m8_67, m8_69, m8_80, m8_90, m8_92, m8_95, m8_97, m8_101, m8_112, m8_122, m8, orO_some, andO_some, Option.bind_some, getD_drop]
    rw [iteT (ltT (by omega)), ix_at hk, Option.bind_some, isS_eq, Option.bind_some]
    by_cases hs : isS [62] m[k] = true
    · right
      refine ⟨_, iteT hs, ?_⟩
      rw [iteT (List.any_eq_true.2 ⟨m[k], List.getElem_mem hk, hs⟩)]
    · left
      rw [iteF (Bool.eq_false_iff.2 hs)]
      have hlen : (m.take k).length = k := by rw [List.length_take]; omega
      refine ⟨(nameOf (m.take (k + 1)), ((k + 1 : Nat) : Int)), ?_, rfl, rfl, by rw [ht, List.any_append, e3]; simp [Bool.eq_false_iff.2 hs]⟩
      rw [ht, nameOf_snoc, hlen]
      rw [hlen] at hn
      by_cases hb : m[k].blank = true ∧ 0 < k
      · rw [if_pos hb] at hn ⊢
        simp only [List.length_append, List.length_cons, List.length_nil] at hn
        rw [iteT (by rw [hb.1, ltT (by omega)]; rfl), pk (by simp only [List.length_cons, List.length_nil]; omega), pk (by simp only [List.length_append, List.length_cons, List.length_nil]; omega), pk (by omega)]; rfl
      · rw [if_neg hb] at hn ⊢
        simp only [List.length_append] at hn
        rw [iteF, pk (by omega), pk (by omega)]
        · rfl
        · rcases Decidable.not_and_iff_or_not.1 hb with h | h
          · rw [Bool.eq_false_iff.2 h]; rfl
          · rw [ltF (by omega), Bool.and_false]) (by
    rintro ⟨nm, i⟩ ⟨e1, e2, e3⟩
    simp only at e1 e2; subst e1; subst e2
    rw [List.take_length] at e3 ⊢
    refine ⟨.inl (nameOf m), ?_, by rw [e3]; rfl⟩
    unfold direct_Target_b2
    simp only [hmid, chkB, andB, orB, condAnd, condOr, iteB, neqB, nltB, nleB, m8_9, m8_10, m8_11, m8_12, m8_13, m8_32, m8_34, m8_35, m8_39, m8_40, m8_41, m8_42, m8_43, m8_44, m8_45, m8_46, m8_47, m8_48, m8_60, m8_62, m8_64, m8_65, m8_67, m8_69, m8_80, m8_90, m8_92, m8_95, m8_97, m8_101, m8_112, m8_122, m8, orO_some, andO_some, Option.bind_some, getD_drop]
    exact iteF (ltF (by omega)))
  exact h1
theorem rtarget_loop (l : GLine) (m : List GTok) (hm : m = midOf l.toks) (h2 : 3 ≤ l.toks.length) (hl : l.toks.length ≤ 2000000) (hp : (printT l.toks).length ≤ 2000000) :
    loopS (emendref04_Target_b3 l) ([], 1) = some (if isS [62] (l.toks[l.toks.length - 1]) = true ∧ m.any (isS [62]) = false then .inl (nameOf m) else .inr ([], false, 40)) := by
  have hml : m.length = l.toks.length - 2 := by rw [hm]; unfold midOf; rw [List.length_take, List.length_drop]; omega
  have hms : m.Sublist l.toks := by rw [hm]; unfold midOf; exact (List.take_sublist _ _).trans (List.drop_sublist _ _)
  have hget : ∀ k, (hk : k < m.length) → l.toks[k + 1]? = some m[k] := by
    intro k hk
    have : m[k]? = some m[k] := List.getElem?_eq_getElem hk
    rw [← this]
    have h3 : k < l.toks.length - 2 := by omega
    conv => rhs; rw [hm]
    unfold midOf
    rw [List.getElem?_take, if_pos h3, List.getElem?_drop, Nat.add_comm]
  obtain ⟨r, h1, rfl⟩ := loopS_rel (f := emendref04_Target_b3 l) (fun x => ∃ k : Nat, x.2 = ((k + 1 : Nat) : Int) ∧ k ≤ m.length + 1 ∧ x.1 = nameOf (m.take k) ∧ (m.take k).any (isS [62]) = false ∧ (k = m.length + 1 → isS [62] (l.toks[l.toks.length - 1]) = true)) (fun x => l.toks.length + 1 - x.2.toNat) (fun r => r = if isS [62] (l.toks[l.toks.length - 1]) = true ∧ m.any (isS [62]) = false then .inl (nameOf m) else .inr ([], false, 40)) (s := (([] : List UInt8), (1 : Int))) ⟨0, rfl, by omega, rfl, rfl, fun h => by omega⟩ (by simp only; omega) (by
    rintro ⟨nm, i⟩ ⟨k, e1, ek, e2, e3, e4⟩
    simp only at e1 e2; subst e1; subst e2
    unfold emendref04_Target_b3 emendref04_Target_j4
    have el : ((l.toks.length : Int) - 1) = ((l.toks.length - 1 : Nat) : Int) := by omega
    simp only [chkB, andB, orB, condAnd, condOr, iteB, neqB, nltB, nleB, m8_9, m8_10, m8_11, m8_12, m8_13, m8_32, m8_34, m8_35, m8_39, m8_40, m8_41, m8_42, m8_43, m8_44, m8_45, m8_46, m8_47, m8_48, m8_60, m8_62, m8_64, m8_65, m8_67, m8_69, m8_80, m8_90, m8_92, m8_95, m8_97, m8_101, m8_112, m8_122, m8, orO_some, andO_some, Option.bind_some, getD_drop, el]
    by_cases hk : k < m.length
    · have ht : m.take (k + 1) = m.take k ++ [m[k]] := by rw [List.take_add_one, List.getElem?_eq_getElem hk]; rfl
      have hn := nameOf_le (m.take (k + 1))
      have hn2 := printT_sub (((List.take_sublist (k + 1) m)).trans hms)
      rw [ht] at hn2
      rw [ht, nameOf_snoc] at hn
      rw [iteT (ltT (by omega)), ix_of (hget k hk) rfl, Option.bind_some, pk (by omega)]
      have es : (m[k].kind == 5 && @BEq.beq _ instBEqOfDecidableEq m[k].text [62]) = isS [62] m[k] := rfl
      have e0 : (((k + 1 : Nat) : Int) == ((l.toks.length - 1 : Nat) : Int)) = false := eqF (by omega)
      rw [es, e0]
      by_cases hs : isS [62] m[k] = true
      · right
        refine ⟨_, iteT (by rw [hs]; rfl), ?_⟩
        rw [if_neg]
        rintro ⟨_, h⟩
        rw [List.any_eq_true.2 ⟨m[k], List.getElem_mem hk, hs⟩] at h; cases h
      · left
        have hs := Bool.eq_false_iff.2 hs
        have hlen : (m.take k).length = k := by rw [List.length_take]; omega
        rw [hlen] at hn
        refine ⟨(nameOf (m.take (k + 1)), ((k + 2 : Nat) : Int)), ?_, ⟨k + 1, rfl, by omega, rfl, by rw [ht, List.any_append, e3]; simp [hs], fun h => by omega⟩, by simp only; omega⟩
        rw [hs, iteF (show (!(false == false)) = false from rfl), iteT (show (!false) = true from rfl), ht, nameOf_snoc, hlen]
        by_cases hb : m[k].blank = true ∧ 0 < k
        · rw [if_pos hb] at hn ⊢
          simp only [List.length_append, List.length_cons, List.length_nil] at hn
          rw [iteT (by rw [hb.1, ltT (by omega)]; rfl), pk (by simp only [List.length_cons, List.length_nil]; omega), pk (by simp only [List.length_append, List.length_cons, List.length_nil]; omega), pk (by omega)]; rfl
        · rw [if_neg hb] at hn ⊢
          simp only [List.length_append] at hn
          rw [iteF, pk (by omega), pk (by omega)]
          · rfl
          · rcases Decidable.not_and_iff_or_not.1 hb with h | h
            · rw [Bool.eq_false_iff.2 h]; rfl
            · rw [ltF (by omega), Bool.and_false]
    · have hmt : m.take k = m := List.take_of_length_le (by omega)
      rw [hmt] at e3
      by_cases hke : k = m.length
      · -- the last one
        have hgl : l.toks[k + 1]? = some (l.toks[l.toks.length - 1]) := by
          rw [show k + 1 = l.toks.length - 1 by omega]; exact List.getElem?_eq_getElem (by omega)
        rw [iteT (ltT (by omega)), ix_of hgl rfl, Option.bind_some, pk (by omega)]
        have es : (l.toks[l.toks.length - 1].kind == 5 && @BEq.beq _ instBEqOfDecidableEq l.toks[l.toks.length - 1].text [62]) = isS [62] l.toks[l.toks.length - 1] := rfl
        have e0 : (((k + 1 : Nat) : Int) == ((l.toks.length - 1 : Nat) : Int)) = true := eqT (by omega)
        rw [es, e0]
        by_cases hs : isS [62] l.toks[l.toks.length - 1] = true
        · left
          refine ⟨(nameOf (m.take k), ((k + 2 : Nat) : Int)), ?_, ⟨k + 1, rfl, by omega, by rw [hmt, List.take_of_length_le (by omega)], by rw [List.take_of_length_le (by omega)]; exact e3, fun _ => hs⟩, by simp only; omega⟩
          rw [hs, iteF (show (!(true == true)) = false from rfl), iteF (show (!true) = false from rfl), pk (by omega)]; rfl
        · right
          refine ⟨_, iteT (by rw [Bool.eq_false_iff.2 hs]; rfl), ?_⟩
          rw [if_neg (fun h => hs h.1)]
      · right
        refine ⟨.inl (nameOf (m.take k)), iteF (ltF (by omega)), ?_⟩
        rw [hmt, if_pos ⟨e4 (by omega), e3⟩])
  exact h1
theorem target_eq (l : GLine) (hl : l.toks.length ≤ 2000000) (hp : (printT l.toks).length ≤ 2000000) : direct_Target l = some (targetOf l) := by
  unfold direct_Target targetOf
  simp only [chkB, andB, orB, condAnd, condOr, iteB, neqB, nltB, nleB, m8_9, m8_10, m8_11, m8_12, m8_13, m8_32, m8_34, m8_35, m8_39, m8_40, m8_41, m8_42, m8_43, m8_44, m8_45, m8_46, m8_47, m8_48, m8_60, m8_62, m8_64, m8_65, m8_67, m8_69, m8_80, m8_90, m8_92, m8_95, m8_97, m8_101, m8_112, m8_122, m8, orO_some, andO_some, Option.bind_some, getD_drop]
  by_cases h10 : l.kind = 10
  · rw [iteF (by rw [eqT h10]; rfl), if_neg (fun h => h h10)]
    obtain ⟨k, f, n, toks⟩ := l
    simp only at hl hp ⊢
    match htk : toks with
    | [] => rw [eqF (show ¬ ((([] : List GTok).length : Int) = 1) by simp), iteF rfl, Option.bind_some, iteF rfl, Option.bind_some, iteF rfl, pk (by simp only [List.length_nil]; omega), iteT (ltT (by simp)), Option.bind_some, iteT rfl, Option.bind_some, iteT rfl]
    | [t] =>
      have x0 : ix [t] 0 = some t := rfl
      have xl : ix [t] ((([t] : List GTok).length : Int) - 1) = some t := rfl
      have e1 : ((([t] : List GTok).length : Int) == 1) = true := rfl
      have hln : ([t] : List GTok).length = 1 := rfl
      have htl : t.text.length ≤ 2000000 := by have h := nameOf_le [t]; rw [show nameOf [t] = t.text by simp [nameOf, printT]] at h; omega
      simp only [x0, xl, e1, isS_eq, chkB, andB, orB, condAnd, condOr, iteB, neqB, nltB, nleB, m8_9, m8_10, m8_11, m8_12, m8_13, m8_32, m8_34, m8_35, m8_39, m8_40, m8_41, m8_42, m8_43, m8_44, m8_45, m8_46, m8_47, m8_48, m8_60, m8_62, m8_64, m8_65, m8_67, m8_69, m8_80, m8_90, m8_92, m8_95, m8_97, m8_101, m8_112, m8_122, m8, orO_some, andO_some, Option.bind_some, getD_drop]
      by_cases h : t.kind = 4 ∧ 2 ≤ t.text.length
      · rw [if_pos h, iteT (by rw [eqT h.1, leT (by omega)]; rfl), pk (by omega), pk (by omega), Int.toNat_one, show ((t.text.length : Int) - 1).toNat - 1 = t.text.length - 2 by omega]
      · rw [if_neg h]
        have hb2 : (true && t.kind == 4 && ile 2 (t.text.length : Int)) = false := by
          rcases Decidable.not_and_iff_or_not.1 h with h | h
          · rw [eqF h]; rfl
          · rw [leF (by omega), Bool.and_false]
        rw [iteF hb2, pk (by rw [hln]; omega), iteT (by rw [ltT (by rw [hln]; omega)]; rfl)]
    | t :: u :: r =>
      have x0 : ix (t :: u :: r) 0 = some t := rfl
      have hln : (t :: u :: r).length = r.length + 2 := rfl
      have xl : ix (t :: u :: r) (((t :: u :: r).length : Int) - 1) = some ((t :: u :: r)[(t :: u :: r).length - 1]'(by simp)) := ix_of (List.getElem?_eq_getElem (by simp)) (by rw [hln]; omega)
      simp only [x0, xl, isS_eq, chkB, andB, orB, condAnd, condOr, iteB, neqB, nltB, nleB, m8_9, m8_10, m8_11, m8_12, m8_13, m8_32, m8_34, m8_35, m8_39, m8_40, m8_41, m8_42, m8_43, m8_44, m8_45, m8_46, m8_47, m8_48, m8_60, m8_62, m8_64, m8_65, m8_67, m8_69, m8_80, m8_90, m8_92, m8_95, m8_97, m8_101, m8_112, m8_122, m8, orO_some, andO_some, Option.bind_some, getD_drop]
      rw [eqF (show ¬ (((t :: u :: r).length : Int) = 1) by rw [hln]; omega), iteF (by rfl), pk (by rw [hln]; omega)]
      by_cases h3 : 3 ≤ (t :: u :: r).length
      · rw [ltF (a := ((t :: u :: r).length : Int) - 1) (by omega), Bool.false_or]
        have hloop := target_loop ⟨k, f, n, t :: u :: r⟩ (midOf (t :: u :: r)) rfl (show 2 ≤ (t :: u :: r).length from by omega) hl hp
        by_cases hh : isS [60] t = true ∧ isS [62] ((t :: u :: r)[(t :: u :: r).length - 1]'(by simp)) = true
        · rw [hh.1, hh.2]
          simp only [Bool.not_true, Bool.or_false]
          rw [iteF rfl, pk (by omega), hloop, Option.bind_some]
          by_cases hm : (midOf (t :: u :: r)).any (isS [62]) = true
          · rw [if_pos hm, if_neg (by rw [hm]; simp)]
          · rw [if_neg hm, if_pos ⟨h3, trivial, trivial, Bool.eq_false_iff.2 hm⟩]; rfl
        · rw [if_neg (fun h => hh ⟨h.2.1, h.2.2.1⟩), iteT]
          rcases Decidable.not_and_iff_or_not.1 hh with h | h
          · rw [Bool.eq_false_iff.2 h]; rfl
          · rw [Bool.eq_false_iff.2 h]; simp
      · rw [if_neg (fun h => h3 h.1), ltT (a := ((t :: u :: r).length : Int) - 1) (by omega), iteT (by rfl)]
  · rw [iteT (by rw [eqF h10]; rfl), if_pos h10]
theorem rtarget_eq (l : GLine) (hl : l.toks.length ≤ 2000000) (hp : (printT l.toks).length ≤ 2000000) : emendref04_Target l = some (targetOf l) := by
  unfold emendref04_Target targetOf
  simp only [chkB, andB, orB, condAnd, condOr, iteB, neqB, nltB, nleB, m8_9, m8_10, m8_11, m8_12, m8_13, m8_32, m8_34, m8_35, m8_39, m8_40, m8_41, m8_42, m8_43, m8_44, m8_45, m8_46, m8_47, m8_48, m8_60, m8_62, m8_64, m8_65, m8_67, m8_69, m8_80, m8_90, m8_92, m8_95, m8_97, m8_101, m8_112, m8_122, m8, orO_some, andO_some, Option.bind_some, getD_drop]
  by_cases h10 : l.kind = 10
  · rw [iteF (by rw [eqT h10]; rfl), if_neg (fun h => h h10)]
    obtain ⟨k, f, n, toks⟩ := l
    simp only at hl hp ⊢
    match htk : toks with
    | [] =>
      rw [eqF (show ¬ ((([] : List GTok).length : Int) = 1) by simp), iteF rfl, Option.bind_some, iteF rfl]
      unfold emendref04_Target_j1
      simp only [chkB, andB, orB, condAnd, condOr, iteB, neqB, nltB, nleB, m8_9, m8_10, m8_11, m8_12, m8_13, m8_32, m8_34, m8_35, m8_39, m8_40, m8_41, m8_42, m8_43, m8_44, m8_45, m8_46, m8_47, m8_48, m8_60, m8_62, m8_64, m8_65, m8_67, m8_69, m8_80, m8_90, m8_92, m8_95, m8_97, m8_101, m8_112, m8_122, m8, orO_some, andO_some, Option.bind_some, getD_drop]
      rw [iteT (ltT (by simp)), Option.bind_some, iteT rfl, Option.bind_some, iteT rfl]
    | [t] =>
      have x0 : ix [t] 0 = some t := rfl
      have e1 : ((([t] : List GTok).length : Int) == 1) = true := rfl
      have htl : t.text.length ≤ 2000000 := by have h := nameOf_le [t]; rw [show nameOf [t] = t.text by simp [nameOf, printT]] at h; omega
      have hj : emendref04_Target_j1 ⟨k, f, n, [t]⟩ () = some ([], false, 40) := by
        unfold emendref04_Target_j1
        simp only [x0, chkB, andB, orB, condAnd, condOr, iteB, neqB, nltB, nleB, m8_9, m8_10, m8_11, m8_12, m8_13, m8_32, m8_34, m8_35, m8_39, m8_40, m8_41, m8_42, m8_43, m8_44, m8_45, m8_46, m8_47, m8_48, m8_60, m8_62, m8_64, m8_65, m8_67, m8_69, m8_80, m8_90, m8_92, m8_95, m8_97, m8_101, m8_112, m8_122, m8, orO_some, andO_some, Option.bind_some, getD_drop]
        rw [iteT (by rw [ltT (by simp)]; rfl)]
      simp only [x0, e1, chkB, andB, orB, condAnd, condOr, iteB, neqB, nltB, nleB, m8_9, m8_10, m8_11, m8_12, m8_13, m8_32, m8_34, m8_35, m8_39, m8_40, m8_41, m8_42, m8_43, m8_44, m8_45, m8_46, m8_47, m8_48, m8_60, m8_62, m8_64, m8_65, m8_67, m8_69, m8_80, m8_90, m8_92, m8_95, m8_97, m8_101, m8_112, m8_122, m8, orO_some, andO_some, Option.bind_some, getD_drop]
      rw [hj]
      by_cases h4 : t.kind = 4
      · rw [iteT (by rw [eqT h4]; rfl)]
        by_cases h2 : 2 ≤ t.text.length
        · rw [iteT (leT (by omega)), if_pos ⟨h4, h2⟩, pk (by omega), pk (by omega), Int.toNat_one, show ((t.text.length : Int) - 1).toNat - 1 = t.text.length - 2 by omega]
        · rw [iteF (leF (by omega)), if_neg (fun h => h2 h.2)]
      · rw [iteF (by rw [eqF h4]; rfl), if_neg (fun h => h4 h.1)]
    | t :: u :: r =>
      have x0 : ix (t :: u :: r) 0 = some t := rfl
      have hln : (t :: u :: r).length = r.length + 2 := rfl
      rw [eqF (show ¬ (((t :: u :: r).length : Int) = 1) by rw [hln]; omega), iteF rfl, Option.bind_some, iteF rfl]
      unfold emendref04_Target_j1
      simp only [x0, chkB, andB, orB, condAnd, condOr, iteB, neqB, nltB, nleB, m8_9, m8_10, m8_11, m8_12, m8_13, m8_32, m8_34, m8_35, m8_39, m8_40, m8_41, m8_42, m8_43, m8_44, m8_45, m8_46, m8_47, m8_48, m8_60, m8_62, m8_64, m8_65, m8_67, m8_69, m8_80, m8_90, m8_92, m8_95, m8_97, m8_101, m8_112, m8_122, m8, orO_some, andO_some, Option.bind_some, getD_drop]
      have es : ((!(t.kind == 5)) || !(@BEq.beq _ instBEqOfDecidableEq t.text [60])) = !(isS [60] t) := by unfold isS; rw [Bool.not_and]
      by_cases h3 : 3 ≤ (t :: u :: r).length
      · rw [ltF (by omega), Bool.false_or, es]
        have hloop := rtarget_loop ⟨k, f, n, t :: u :: r⟩ (midOf (t :: u :: r)) rfl h3 hl hp
        by_cases h60 : isS [60] t = true
        · rw [iteF (by rw [h60]; rfl), hloop, Option.bind_some]
          by_cases hh : isS [62] ((t :: u :: r)[(t :: u :: r).length - 1]'(by simp)) = true ∧ (midOf (t :: u :: r)).any (isS [62]) = false
          · rw [if_pos hh, if_pos ⟨h3, h60, hh.1, hh.2⟩]; rfl
          · rw [if_neg hh, if_neg (fun h => hh ⟨h.2.2.1, h.2.2.2⟩)]
        · rw [iteT (by rw [Bool.eq_false_iff.2 h60]; rfl), if_neg (fun h => h60 h.2.1)]
      · rw [if_neg (fun h => h3 h.1), ltT (by omega), iteT (by rfl)]
  · rw [iteT (by rw [eqF h10]; rfl), if_pos h10]
theorem directTargets_law (t : List UInt8) (k : Int) : emendlaw04_DirectTargets t k = some true := by
  unfold emendlaw04_DirectTargets
  rw [awake4, Option.bind_some]
  by_cases hl : 300 < t.length
  · rw [if_pos (decide_eq_true (by omega))]
  have h1 := tokens_len 0 t
  have h2 := tokens_room 0 t
  rw [if_neg (by rw [decide_eq_false (by omega)]; simp), tokens_eq 0 t (by omega), Option.bind_some, target_eq _ (by simp only; omega) (by simp only; omega), Option.bind_some, rtarget_eq _ (by simp only; omega) (by simp only; omega), Option.bind_some, target_eq _ (by simp only; omega) (by simp only; omega), Option.bind_some, rtarget_eq _ (by simp only; omega) (by simp only; omega), Option.bind_some]
  simp [andO]
end Go.Sh
