/-
  What splice's functions and the document's compute, in plain words. No program in sight.
-/
import Derived.Test.YtfocleohejljpaaDoorPl
import Derived.Test.YtfocleohejljpaaDoorT
set_option linter.unusedVariables false
set_option linter.unusedSimpArgs false
namespace Go.Sh
open Go

theorem charsAt_len : ∀ (s : List UInt8) (i : Nat), (charsAt i s).length ≤ s.length
  | [], i => by simp [charsAt]
  | [c], i => by simp [charsAt]
  | c :: d :: r, i => by
    unfold charsAt; split
    · have := charsAt_len r (i + 2); simp only [List.length_cons]; omega
    · have := charsAt_len (d :: r) (i + 1); simp only [List.length_cons] at *; omega

theorem spliceJoin_eq (t : List UInt8) (h : t.length ≤ 2000000) : splice_Join t = some (charsAt 0 t) := by
  have hl := charsAt_len t 0
  unfold splice_Join
  have hc : chars t = some (charsAt 0 t) := by unfold chars; rw [if_pos (by omega)]
  rw [bind_of hc]
  obtain ⟨s, h1, rfl⟩ := foldS_rel (f := splice_Join_b1) (l := charsAt 0 t) (fun k s => s = (charsAt 0 t).take k) (s0 := ([] : List GChar)) rfl (by
    rintro k s x hx rfl
    have hlt := (List.getElem?_eq_some_iff.1 hx).1
    refine ⟨(charsAt 0 t).take k ++ [x], ?_, ?_⟩
    · unfold splice_Join_b1
      rw [chk_of (by rw [List.length_take]; omega)]
    · rw [List.take_add_one, hx]; rfl)
  rw [bind_of h1]
  simp [splice_Join_k2]

theorem refJoin_eq (t : List UInt8) (h : t.length ≤ 2000000) : emendref02_Join t = some (charsAt 0 t) := by
  have hl := charsAt_len t 0
  unfold emendref02_Join
  obtain ⟨r, h1, rfl⟩ := loopS_rel (f := emendref02_Join_b2 t) (fun s => ∃ k : Nat, s.1 = k ∧ k ≤ t.length ∧ s.2 ++ charsAt k (t.drop k) = charsAt 0 t) (fun s => t.length - s.1.toNat) (fun r => r = charsAt 0 t) (s := ((0 : Int), ([] : List GChar))) ⟨0, rfl, Nat.zero_le _, by simp⟩ (by simp only; omega) (by
    rintro ⟨i, out⟩ ⟨k, h1, hk, ho⟩
    simp only at h1 ho
    subst h1
    have hol : out.length ≤ 2000000 := by
      have := congrArg List.length ho
      rw [List.length_append] at this; omega
    by_cases hlt : k < t.length
    · left
      have hd : t.drop k = t[k] :: t.drop (k + 1) := List.drop_eq_getElem_cons hlt
      unfold emendref02_Join_b2
      simp only
      rw [ite_t (by simpa using hlt), bind_of (ix_at hlt)]
      by_cases hp : t[k] = 92 ∧ ∃ h2 : k + 1 < t.length, t[k + 1] = 10
      · obtain ⟨hp1, h2, hp2⟩ := hp
        have hd2 : t.drop (k + 1) = t[k + 1] :: t.drop (k + 2) := List.drop_eq_getElem_cons h2
        refine ⟨((k : Int) + 2, out), ?_, ⟨k + 2, rfl, by omega, ?_⟩, by simp only; omega⟩
        · have e1 : ((k : Int) + 1) = ((k + 1 : Nat) : Int) := rfl
          rw [bind_of (a := true) (by rw [andO, if_pos (by rw [hp1]; rfl), chk_of (by omega)]; congr 1; simp; omega)]
          rw [bind_of (a := true) (by rw [andO, if_pos rfl, chk_of (by omega), e1, bind_of (ix_at h2), hp2]; rfl)]
          rw [ite_t rfl, chk_of (by omega)]
        · rw [← ho, hd, hd2, hp1, hp2]; rfl
      · refine ⟨((k : Int) + 1, out ++ [⟨t[k], k⟩]), ?_, ⟨k + 1, rfl, by omega, ?_⟩, by simp only; omega⟩
        · have e1 : ((k : Int) + 1) = ((k + 1 : Nat) : Int) := rfl
          obtain ⟨b, hb, hb2⟩ : ∃ b, andO (decide ((t[k].toNat : Int) = 92)) (chk (I64 ((k : Int) + 1)) (some (decide ((k : Int) + 1 < (t.length : Int))))) = some b ∧ (b = true ↔ t[k] = 92 ∧ k + 1 < t.length) := by
            rw [chk_of (by omega), andO_some]
            refine ⟨_, rfl, ?_⟩
            simp only [Bool.and_eq_true, decide_eq_true_eq]
            constructor
            · rintro ⟨h3, h4⟩; exact ⟨UInt8.toNat_inj.1 (by rw [show (92 : UInt8).toNat = 92 from rfl]; omega), by omega⟩
            · rintro ⟨h3, h4⟩; rw [h3]; exact ⟨rfl, by omega⟩
          rw [bind_of hb]
          rw [bind_of (a := false) (by
            cases hbb : b with
            | false => rfl
            | true =>
              obtain ⟨h3, h4⟩ := hb2.1 hbb
              rw [andO, if_pos rfl, chk_of (by omega), e1, bind_of (ix_at h4)]
              have : ¬ (t[k + 1] = 10) := fun h5 => hp ⟨h3, h4, h5⟩
              have h6 : ¬ ((t[k + 1].toNat : Int) = 10) := fun h7 => this (UInt8.toNat_inj.1 (by rw [show (10 : UInt8).toNat = 10 from rfl]; omega))
              rw [decide_eq_false h6])]
          rw [ite_f rfl]
          rw [bind_of (ix_at hlt), chk_of (by omega), chk_of (by omega)]
        · rw [← ho, hd]
          cases hr : t.drop (k + 1) with
          | nil => simp [charsAt]
          | cons d r =>
            have h2 : k + 1 < t.length := by
              have := congrArg List.length hr
              simp only [List.length_drop, List.length_cons] at this; omega
            have hd2 : t.drop (k + 1) = t[k + 1] :: t.drop (k + 2) := List.drop_eq_getElem_cons h2
            rw [hd2] at hr; injection hr with hr1 hr2
            have : ¬ (t[k] = 92 ∧ d = 10) := fun ⟨h3, h4⟩ => hp ⟨h3, h2, by rw [hr1]; exact h4⟩
            rw [show charsAt k (t[k] :: d :: r) = ⟨t[k], k⟩ :: charsAt (k + 1) (d :: r) by simp only [charsAt, if_neg this], List.append_assoc]
            rfl
    · right
      obtain rfl : k = t.length := by omega
      refine ⟨out, ?_, ?_⟩
      · unfold emendref02_Join_b2
        simp only
        rw [ite_f (by simp)]
      · rw [← ho]; simp [charsAt])
  rw [bind_of h1]; rfl

theorem spliceText_eq (l : List GChar) (h : l.length ≤ 2000000) : splice_Text l = some (l.map GChar.b) := by
  unfold splice_Text
  rw [chk_of (by omega)]
  obtain ⟨r, h1, rfl⟩ := loopS_ix (f := splice_Text_b2 l) l.length (by omega) (fun k s => s.1 = k ∧ s.2 = (l.map GChar.b).take k ++ List.replicate (l.length - k) 0) (fun r => r = l.map GChar.b) (s0 := ((0 : Int), List.replicate ((l.length : Int)).toNat (0 : UInt8))) ⟨rfl, by simp⟩ (by
    rintro k ⟨i, b⟩ hk ⟨h1, h2⟩
    simp only at h1 h2; subst h1; subst h2
    left
    have hb : ((l.map GChar.b).take k ++ List.replicate (l.length - k) 0)[k]? = some 0 := by
      have e1 : ((l.map GChar.b).take k).length = k := by simp; omega
      rw [List.getElem?_append_right (by omega), e1, Nat.sub_self, List.getElem?_replicate, if_pos (by omega)]
    refine ⟨((k : Int) + 1, ((l.map GChar.b).take k ++ List.replicate (l.length - k) 0).set (k : Int).toNat l[k].b), ?_, rfl, ?_⟩
    · unfold splice_Text_b2
      simp only
      rw [ite_t (by simpa using hk), bind_of (ix_at hk), ix_nat, bind_of hb, chk_of (by omega)]
    · simp only [Int.toNat_natCast]
      have e1 : ((l.map GChar.b).take k).length = k := by simp; omega
      obtain ⟨m, hm⟩ : ∃ m, l.length - k = m + 1 := ⟨l.length - k - 1, by omega⟩
      rw [List.set_append_right _ _ (by omega), e1, Nat.sub_self, hm, show l.length - (k + 1) = m by omega, List.take_add_one, List.getElem?_map, List.getElem?_eq_getElem hk]
      simp [List.replicate_succ]) (by
    rintro ⟨i, b⟩ ⟨h1, h2⟩
    simp only at h1 h2; subst h1; subst h2
    refine ⟨_, ?_, rfl⟩
    unfold splice_Text_b2
    simp only
    rw [ite_f (by simp), Nat.sub_self, List.take_of_length_le (by simp)]
    simp)
  rw [bind_of h1]; rfl
theorem refText_eq (l : List GChar) (h : l.length ≤ 2000000) : emendref02_Text l = some (l.map GChar.b) := by
  unfold emendref02_Text
  obtain ⟨r, h1, rfl⟩ := loopS_ix (f := emendref02_Text_b2 l) l.length (by omega) (fun k s => s.2 = k ∧ s.1 = (l.map GChar.b).take k) (fun r => r = l.map GChar.b) (s0 := (([] : List UInt8), (0 : Int))) ⟨rfl, by simp⟩ (by
    rintro k ⟨b, i⟩ hk ⟨h1, h2⟩
    simp only at h1 h2; subst h1; subst h2
    left
    refine ⟨((l.map GChar.b).take k ++ [l[k].b], (k : Int) + 1), ?_, rfl, ?_⟩
    · unfold emendref02_Text_b2
      simp only
      rw [ite_t (by simpa using hk), bind_of (ix_at hk), chk_of (by simp only [List.length_take, List.length_map, List.length_cons, List.length_nil]; omega), chk_of (by omega)]
    · simp only
      rw [List.take_add_one, List.getElem?_map, List.getElem?_eq_getElem hk]; rfl) (by
    rintro ⟨b, i⟩ ⟨h1, h2⟩
    simp only at h1 h2; subst h1; subst h2
    refine ⟨_, ?_, rfl⟩
    unfold emendref02_Text_b2
    simp only
    rw [ite_f (by simp), List.take_of_length_le (by simp)])
  rw [bind_of h1]; rfl
end Go.Sh
