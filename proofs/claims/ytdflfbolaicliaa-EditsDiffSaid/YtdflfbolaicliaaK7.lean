/-
  The chapter's examples; EditsPlay, EditsOrder, EditsAgain in plain words. No program in sight.
-/
import Derived.Test.YtdflfbolaicliaaK6
set_option linter.unusedVariables false
set_option linter.unusedSimpArgs false
namespace Go.Sh
open Go
theorem normS_perm {fs : List GFile} {l l' : List GEdit} (h : l.Perm l') : normS fs l = normS fs l' := by
  by_cases h1 : ∀ x ∈ l, RightE fs x
  · have h1' : ∀ x ∈ l', RightE fs x := fun x hx => h1 x (h.mem_iff.2 hx)
    by_cases h2 : (sortE l).Pairwise T
    · have e : sortE l' = sortE l := sorted_unique (h2.imp T.ahead) (sortE_spec l').2 ((sortE_spec l').1.trans (h.symm.trans (sortE_spec l).1.symm))
      unfold normS
      rw [if_pos h1, if_pos h1', e]
    · have h2' : ¬ (sortE l').Pairwise T := fun hh => h2 ((pair_iff h1).1 ((h.pairwise_iff (R := fun a b => ¬ overR a b) (fun hab hba => hab (overR_symm hba))).2 ((pair_iff h1').2 hh)))
      unfold normS
      rw [if_pos h1, if_pos h1', if_neg h2, if_neg h2']
  · have h1' : ¬ ∀ x ∈ l', RightE fs x := fun hh => h1 fun x hx => hh x (h.mem_iff.1 hx)
    unfold normS
    rw [if_neg h1, if_neg h1']
theorem sortE_to {l a : List GEdit} (h : a.Pairwise aheadE) (hp : l.Perm a) : sortE l = a := sorted_unique h (sortE_spec l).2 ((sortE_spec l).1.trans hp)
theorem normS_over {fs : List GFile} {l : List GEdit} (h : ∀ x ∈ l, RightE fs x) (ho : ¬ l.Pairwise fun a b => ¬ overR a b) : normS fs l = ([], 201) := by
  unfold normS
  rw [if_pos h, if_neg fun hh => ho ((pair_iff h).2 hh)]
abbrev awF : List GFile := [⟨[97], [97, 98, 99, 100, 101, 102]⟩]
theorem aw1 : appliedS awF [⟨0, 4, 5, [88]⟩, ⟨0, 0, 2, []⟩] = ([⟨[97], [99, 100, 88, 102]⟩], 0) := by
  have hs : sortE [⟨0, 4, 5, [88]⟩, ⟨0, 0, 2, []⟩] = [⟨0, 0, 2, []⟩, ⟨0, 4, 5, [88]⟩] := sortE_to (by decide) (.swap _ _ _)
  unfold appliedS normS
  rw [hs]; decide +kernel
theorem aw2 : appliedS awF [⟨0, 1, 3, [120]⟩, ⟨0, 2, 4, [121]⟩] = ([], 201) := by
  unfold appliedS
  rw [normS_over (by decide +kernel) (by decide +kernel)]; rfl
theorem aw3 : appliedS awF [⟨0, 1, 1, [120]⟩, ⟨0, 1, 1, [121]⟩] = ([], 201) := by
  unfold appliedS
  rw [normS_over (by decide +kernel) (by decide +kernel)]; rfl
theorem aw4 : appliedS awF [⟨0, 0, 3, [120]⟩, ⟨0, 1, 1, [121]⟩] = ([], 201) := by
  unfold appliedS
  rw [normS_over (by decide +kernel) (by decide +kernel)]; rfl
theorem aw5 : appliedS awF [⟨0, 1, 2, [120]⟩, ⟨0, 2, 2, [121]⟩, ⟨0, 2, 3, [122]⟩] = ([⟨[97], [97, 120, 121, 122, 100, 101, 102]⟩], 0) := by
  have hs : sortE [⟨0, 1, 2, [120]⟩, ⟨0, 2, 2, [121]⟩, ⟨0, 2, 3, [122]⟩] = [⟨0, 1, 2, [120]⟩, ⟨0, 2, 2, [121]⟩, ⟨0, 2, 3, [122]⟩] := sortE_to (by decide) (.refl _)
  unfold appliedS normS
  rw [hs]; decide +kernel
theorem aw6 : appliedS awF [⟨0, 0, 7, [120]⟩] = ([], 200) := by
  unfold appliedS normS
  rw [if_neg (by decide +kernel)]; rfl
theorem aw7 : normS awF [⟨0, 0, 1, [97]⟩] = ([], 0) := by
  have hs : sortE [⟨0, 0, 1, [97]⟩] = [⟨0, 0, 1, [97]⟩] := sortE_to (by decide) (.refl _)
  unfold normS
  rw [hs]; decide +kernel
theorem awF_ok : ∀ f ∈ awF, f.text.length ≤ 1000000000 := by decide +kernel
theorem awake_eq : emendlaw20_awake = some true := by
  unfold emendlaw20_awake
  rw [apply_eq awF _ (by decide) (by decide) (by decide) awF_ok, aw1, apply_eq awF _ (by decide) (by decide) (by decide) awF_ok, aw2, apply_eq awF _ (by decide) (by decide) (by decide) awF_ok, aw3,
    apply_eq awF _ (by decide) (by decide) (by decide) awF_ok, aw4, apply_eq awF _ (by decide) (by decide) (by decide) awF_ok, aw5, apply_eq awF _ (by decide) (by decide) (by decide) awF_ok, aw6, normal_eq awF _ (by decide) (by decide), aw7]
  rfl
theorem Short.texts' {fs : List GFile} {l : List GEdit} (h : Short fs l) : ∀ f ∈ fs, f.text.length ≤ 1000000000 := fun f hf => by have := h.texts f hf; omega
theorem appliedS_len (fs : List GFile) (l : List GEdit) : (appliedS fs l).1.length ≤ fs.length := by
  unfold appliedS
  split
  · rw [applyS_len]; exact Nat.le_refl _
  · exact Nat.zero_le _
theorem editsPlay_law (fs : List GFile) (l : List GEdit) : emendlaw20_EditsPlay fs l = some true := by
  unfold emendlaw20_EditsPlay
  rw [awake_eq]
  obtain ⟨b, hb, hs⟩ := short_eq fs l
  rw [hb]
  simp only [Option.bind_some]
  cases b with
  | false => rfl
  | true =>
    have hs := hs rfl
    have h1 := hs.files; have h2 := hs.edits; have h3 := hs.sum
    rw [if_neg (by simp), normal_eq fs l (by omega) (by omega), rnormal_eq fs l (by omega) (by omega), apply_eq fs l (by omega) (by omega) (by omega) hs.texts', rapply_eq fs l (by omega) (by omega) (by omega) hs.texts']
    simp only [Option.bind_some]
    have h4 := normS_len fs l
    have h5 := appliedS_len fs l
    rw [alike_eq _ _ (by omega), same_eq _ _ (by omega)]
    simp only [decide_true, andO_true, Option.bind_some]
theorem back_loop (l : List GEdit) (hn : l.length ≤ 1000000) : loopS (emendlaw20_EditsOrder_b2 l) (((l.length : Int) - 1), ([] : List GEdit)) = some l.reverse := by
  obtain ⟨r, h1, h2⟩ := loopS_ix (f := emendlaw20_EditsOrder_b2 l) l.length (by omega) (fun k x => x = ((l.length : Int) - 1 - (k : Int), l.reverse.take k)) (fun r => r = l.reverse) (s0 := (((l.length : Int) - 1), ([] : List GEdit))) (by simp) (by
    rintro k x hk rfl
    unfold emendlaw20_EditsOrder_b2
    obtain ⟨i, hi⟩ : ∃ i : Nat, i = l.length - (k + 1) := ⟨_, rfl⟩
    have e1 : (l.length : Int) - 1 - (k : Int) = (i : Int) := by omega
    have hik : i < l.length := by omega
    left
    refine ⟨((i : Int) - 1, l.reverse.take k ++ [l[i]]), ?_, ?_⟩
    · rw [e1]
      simp only [chkB, dT (show (0 : Int) ≤ (i : Int) by omega), if_true, ix_at hik, Option.bind_some]
      rw [pk (by rw [List.length_take, List.length_reverse]; omega), pk (i64_small (by omega) (by omega))]
    · have hkr : k < l.reverse.length := by rw [List.length_reverse]; exact hk
      rw [List.take_add_one, List.getElem?_eq_getElem hkr, List.getElem_reverse]
      have e2 : l.length - 1 - k = i := by omega
      simp only [e2, Option.toList_some]
      congr 1; omega) (by
    rintro x rfl
    unfold emendlaw20_EditsOrder_b2
    have hlt : ¬ (0 : Int) ≤ (l.length : Int) - 1 - (l.length : Int) := by omega
    rw [List.take_of_length_le (by rw [List.length_reverse]; omega)]
    exact ⟨_, if_neg (by rw [dF hlt]; simp), rfl⟩)
  rw [h1, h2]
theorem sumT_rev (l : List GEdit) : sumT l.reverse = sumT l := sumT_perm l.reverse_perm
theorem editsOrder_law (fs : List GFile) (l : List GEdit) : emendlaw20_EditsOrder fs l = some true := by
  unfold emendlaw20_EditsOrder
  rw [awake_eq]
  obtain ⟨b, hb, hs⟩ := short_eq fs l
  rw [hb]
  simp only [Option.bind_some]
  cases b with
  | false => rfl
  | true =>
    have hs := hs rfl
    have h1 := hs.files; have h2 := hs.edits; have h3 := hs.sum
    rw [if_neg (by simp), chkT (i64_small (by omega) (by omega)), back_loop l (by omega)]
    show emendlaw20_EditsOrder_j1 fs l true l.reverse = _
    unfold emendlaw20_EditsOrder_j1
    have h4 := normS_len fs l
    have h6 := normS_sum fs l
    have h5 := appliedS_len fs l
    have hrev : normS fs l.reverse = normS fs l := normS_perm l.reverse_perm
    have harev : appliedS fs l.reverse = appliedS fs l := by unfold appliedS; rw [hrev]
    rw [apply_eq fs l (by omega) (by omega) (by omega) hs.texts', apply_eq fs l.reverse (by omega) (by rw [List.length_reverse]; omega) (by rw [sumT_rev]; omega) hs.texts', normal_eq fs l (by omega) (by omega), normal_eq fs l.reverse (by rw [List.length_reverse]; omega) (by rw [sumT_rev]; omega), hrev, harev]
    simp only [Option.bind_some]
    rw [apply_eq fs (normS fs l).1 (by omega) (by omega) (by omega) hs.texts']
    simp only [Option.bind_some]
    rw [same_eq _ _ (by omega), same_eq _ _ (by omega), alike_eq _ _ (by omega)]
    simp only [decide_true, Bool.not_true, orO_false, andO_true, Option.bind_some, Bool.false_eq_true, if_false]
    by_cases he : (appliedS fs l).2 = 0
    · have hn0 : (normS fs l).2 = 0 := by
        unfold appliedS at he
        by_cases h : (normS fs l).2 = 0
        · exact h
        · rw [if_neg h] at he; exact he
      have hself := normS_self (normS_good hn0)
      have e : appliedS fs (normS fs l).1 = appliedS fs l := by
        unfold appliedS
        rw [hself, if_pos rfl, if_pos hn0]
      rw [e, dT he]
      simp only [decide_true, Bool.not_true, orO_false, andO_true, Option.bind_some]
    · rw [dF he]; rfl
theorem editsAgain_law (fs : List GFile) (l : List GEdit) : emendlaw20_EditsAgain fs l = some true := by
  unfold emendlaw20_EditsAgain
  rw [awake_eq]
  obtain ⟨b, hb, hs⟩ := short_eq fs l
  rw [hb]
  simp only [Option.bind_some]
  cases b with
  | false => rfl
  | true =>
    have hs := hs rfl
    have h1 := hs.files; have h2 := hs.edits; have h3 := hs.sum
    have h4 := normS_len fs l
    have h6 := normS_sum fs l
    rw [if_neg (by simp), normal_eq fs l (by omega) (by omega)]
    simp only [Option.bind_some]
    by_cases hn0 : (normS fs l).2 = 0
    · rw [if_neg (by rw [dT hn0]; simp), normal_eq fs (normS fs l).1 (by omega) (by omega)]
      have hg := normS_good hn0
      rw [normS_self hg]
      generalize normS fs l = mm at *
      obtain ⟨m, e⟩ := mm
      dsimp only at hg h4 h6 ⊢
      simp only [Option.bind_some]
      obtain ⟨r, h7, h8⟩ := loopS_ix (f := emendlaw20_EditsAgain_b2 fs (m, e)) m.length (by omega) (fun k x => x = (k : Int)) (fun r => r = .inl ()) (s0 := (0 : Int)) rfl (by
        rintro k x hk rfl
        unfold emendlaw20_EditsAgain_b2
        have hlt : (k : Int) < (m.length : Int) := by omega
        have hr := hg.right _ (List.getElem_mem hk)
        have ha := hg.acts _ (List.getElem_mem hk)
        have hr' := hr
        obtain ⟨a1, a2, a3, a4, a5⟩ := hr'
        obtain ⟨f, hfx, hft, hf⟩ := ix_in a1 a2
        left
        refine ⟨((k + 1 : Nat) : Int), ?_, rfl⟩
        simp only [chkB, dT hlt, if_true, ix_at hk, Option.bind_some, rright_eq, dT hr, Bool.not_true, orO_false, hfx]
        have hne : decide (((f.text.drop m[k].from_.toNat).take (m[k].to.toNat - m[k].from_.toNat)) = m[k].text) = false := by
          unfold nidle idle cut at ha
          rw [hft]
          cases hd : decide (((txt fs m[k].file_).drop m[k].from_.toNat).take (m[k].to.toNat - m[k].from_.toNat) = m[k].text) with
          | false => rfl
          | true => rw [hd] at ha; cases ha
        rw [← hft] at a5
        rw [pk ⟨a3, a4, a5⟩, hne]
        simp only [Option.bind_some, Bool.not_false, Bool.not_true, orO_false]
        by_cases h0 : k = 0
        · subst h0
          rw [dF (show ¬ (0 : Int) < ((0 : Nat) : Int) by omega)]
          simp only [andO_false, Option.bind_some, Bool.false_eq_true, if_false]
          rw [pk (i64_small (by omega) (by omega))]; rfl
        · have e1 : (k : Int) - 1 = ((k - 1 : Nat) : Int) := by omega
          have hk1 : k - 1 < m.length := by omega
          have hG := List.pairwise_iff_getElem.1 hg.gap (k - 1) k hk1 hk (by omega)
          simp only [e1, ix_at hk1, Option.bind_some]
          have p1 : ∀ x : Option Bool, pchk (I64 ((k - 1 : Nat) : Int)) x = x := fun x => pk (i64_small (by omega) (by omega))
          have p2 : ∀ x : Option (Step Int (Sum Unit Bool)), pchk (I64 ((k : Int) + 1)) x = x := fun x => pk (i64_small (by omega) (by omega))
          rw [dT (show (0 : Int) < (k : Int) by omega), dF (show ¬ m[k].file_ < m[k - 1].file_ by unfold G at hG; omega), p2]
          simp only [andO_true, orO_false, p1]
          by_cases hf2 : m[k].file_ = m[k - 1].file_
          · rw [dT hf2, dF (show ¬ m[k].from_ ≤ m[k - 1].to by unfold G at hG; omega), fl_nat]
            simp only [andO_true, Option.bind_some, Bool.false_eq_true, if_false]
          · rw [dF hf2, fl_nat]
            simp only [andO_false, Option.bind_some, Bool.false_eq_true, if_false]) (by
        rintro x rfl
        unfold emendlaw20_EditsAgain_b2
        have hlt : ¬ (m.length : Int) < (m.length : Int) := by omega
        exact ⟨_, if_neg (by rw [dF hlt]; simp), rfl⟩)
      rw [h7, h8]
      show emendlaw20_EditsAgain_j1 true (m, e) (m, 0) () = _
      unfold emendlaw20_EditsAgain_j1
      rw [alike_eq _ _ (by dsimp only; omega)]
      simp only [decide_true, andO_true, Option.bind_some]
    · rw [if_pos (by rw [dF hn0]; rfl), normS_bad hn0]; rfl
end Go.Sh
