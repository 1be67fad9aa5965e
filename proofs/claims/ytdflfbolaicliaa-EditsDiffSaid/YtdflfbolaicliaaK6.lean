/-
  The document's Apply; sameness; the chapter's examples; EditsPlay, EditsOrder, EditsAgain in plain words. No program in sight.
-/
import Derived.Test.YtdflfbolaicliaaK5
set_option linter.unusedVariables false
set_option linter.unusedSimpArgs false
namespace Go.Sh
open Go
theorem same_eq (a b : List GFile) (ha : a.length ≤ 1000000) : emendref20_Same a b = some (decide (a = b)) := by
  unfold emendref20_Same
  by_cases hl : a.length = b.length
  · rw [if_neg (by rw [dT (show (a.length : Int) = b.length by omega)]; simp)]
    rw [loopS_sameB a b id false (by omega) hl (fun k h h2 => by
      unfold emendref20_Same_b2
      have hlt : (k : Int) < (a.length : Int) := by omega
      simp only [chkB, dT hlt, if_true, ix_at h, ix_at h2, Option.bind_some, id]
      by_cases e : a[k] = b[k]
      · rw [if_neg (by rw [dT e]; simp), if_pos e, pk (i64_small (by omega) (by omega)), fl_nat]
      · rw [if_pos (by rw [dF e]; rfl), if_neg e]) (by
      unfold emendref20_Same_b2
      have hlt : ¬ (a.length : Int) < (a.length : Int) := by omega
      exact if_neg (by rw [dF hlt]; simp))]
    rw [List.map_id, List.map_id]
    by_cases e : a = b
    · rw [if_pos e, dT e]; rfl
    · rw [if_neg e, dF e]; rfl
  · rw [if_pos (by rw [dF (show ¬ (a.length : Int) = b.length by omega)]; rfl), dF (show ¬ a = b from fun e => hl (by rw [e]))]
theorem alike_eq (a b : List GEdit) (ha : a.length ≤ 1000000) : emendref20_Alike a b = some (decide (a = b)) := by
  unfold emendref20_Alike
  by_cases hl : a.length = b.length
  · rw [if_neg (by rw [dT (show (a.length : Int) = b.length by omega)]; simp)]
    rw [loopS_sameB a b id false (by omega) hl (fun k h h2 => by
      unfold emendref20_Alike_b2
      have hlt : (k : Int) < (a.length : Int) := by omega
      simp only [chkB, dT hlt, if_true, ix_at h, ix_at h2, Option.bind_some, id]
      by_cases e : a[k] = b[k]
      · rw [if_neg (by rw [dT e]; simp), if_pos e, pk (i64_small (by omega) (by omega)), fl_nat]
      · rw [if_pos (by rw [dF e]; rfl), if_neg e]) (by
      unfold emendref20_Alike_b2
      have hlt : ¬ (a.length : Int) < (a.length : Int) := by omega
      exact if_neg (by rw [dF hlt]; simp))]
    rw [List.map_id, List.map_id]
    by_cases e : a = b
    · rw [if_pos e, dT e]; rfl
    · rw [if_neg e, dF e]; rfl
  · rw [if_pos (by rw [dF (show ¬ (a.length : Int) = b.length by omega)]; rfl), dF (show ¬ a = b from fun e => hl (by rw [e]))]
structure Short (fs : List GFile) (l : List GEdit) : Prop where
  files : fs.length ≤ 10
  edits : l.length ≤ 40
  texts : ∀ f ∈ fs, f.text.length ≤ 500
  news : ∀ c ∈ l, c.text.length ≤ 500
theorem short_eq (fs : List GFile) (l : List GEdit) : ∃ b, emendlaw20_short fs l = some b ∧ (b = true → Short fs l) := by
  unfold emendlaw20_short
  by_cases h1 : (10 : Int) < (fs.length : Int)
  · rw [dT h1]; exact ⟨false, rfl, fun h => by cases h⟩
  by_cases h2 : (40 : Int) < (l.length : Int)
  · rw [dF h1, dT h2]; exact ⟨false, rfl, fun h => by cases h⟩
  rw [dF h1, dF h2]
  simp only [orO_false, Option.bind_some]
  rw [if_neg (by simp)]
  rw [loopS_findB fs (fun f => decide ((500 : Int) < (f.text.length : Int))) false (by omega) (fun k hk => by
    unfold emendlaw20_short_b2
    have hlt : (k : Int) < (fs.length : Int) := by omega
    simp only [chkB, dT hlt, if_true, ix_at hk, Option.bind_some]
    rw [pk (i64_small (by omega) (by omega)), fl_nat]) (by
    unfold emendlaw20_short_b2
    have hlt : ¬ (fs.length : Int) < (fs.length : Int) := by omega
    exact if_neg (by rw [dF hlt]; simp))]
  by_cases h3 : (fs.any fun f => decide ((500 : Int) < (f.text.length : Int))) = true
  · rw [if_pos h3]; exact ⟨false, rfl, fun h => by cases h⟩
  rw [if_neg h3]
  show ∃ b, emendlaw20_short_j1 l () = some b ∧ _
  unfold emendlaw20_short_j1
  rw [loopS_findB l (fun f => decide ((500 : Int) < (f.text.length : Int))) false (by omega) (fun k hk => by
    unfold emendlaw20_short_b4
    have hlt : (k : Int) < (l.length : Int) := by omega
    simp only [chkB, dT hlt, if_true, ix_at hk, Option.bind_some]
    rw [pk (i64_small (by omega) (by omega)), fl_nat]) (by
    unfold emendlaw20_short_b4
    have hlt : ¬ (l.length : Int) < (l.length : Int) := by omega
    exact if_neg (by rw [dF hlt]; simp))]
  by_cases h4 : (l.any fun f => decide ((500 : Int) < (f.text.length : Int))) = true
  · rw [if_pos h4]; exact ⟨false, rfl, fun h => by cases h⟩
  rw [if_neg h4]
  refine ⟨true, rfl, fun _ => ⟨by omega, by omega, fun f hf => ?_, fun f hf => ?_⟩⟩
  · by_cases hh : f.text.length ≤ 500
    · exact hh
    · exact (h3 (List.any_eq_true.2 ⟨f, hf, dT (by omega)⟩)).elim
  · by_cases hh : f.text.length ≤ 500
    · exact hh
    · exact (h4 (List.any_eq_true.2 ⟨f, hf, dT (by omega)⟩)).elim
theorem sumT_le (n : Nat) : ∀ (l : List GEdit), (∀ c ∈ l, c.text.length ≤ n) → sumT l ≤ l.length * n
  | [], _ => Nat.zero_le _
  | c :: l, h => by
    have h1 := h c (List.mem_cons_self ..)
    have h2 := sumT_le n l fun d hd => h d (List.mem_cons_of_mem _ hd)
    rw [sumT_cons, List.length_cons, Nat.add_mul, Nat.one_mul]; omega
theorem Short.sum {fs : List GFile} {l : List GEdit} (h : Short fs l) : sumT l ≤ 20000 := by
  have h1 := sumT_le 500 l h.news
  have h2 := Nat.mul_le_mul_right 500 h.edits
  omega
/-! ### the document's Apply -/
def R (s : List UInt8) : List GEdit → List UInt8
  | [] => s
  | c :: r => (R s r).take c.from_.toNat ++ c.text ++ (R s r).drop c.to.toNat
theorem R_spl : ∀ (l : List GEdit) (s : List UInt8) (a : Int), seqd s a l → (R s l).drop a.toNat = spl s a l ∧ (R s l).take a.toNat = s.take a.toNat
  | [], s, a, h => ⟨rfl, rfl⟩
  | c :: r, s, a, h => by
    obtain ⟨h0, h1, h2, h3, h4⟩ := h
    obtain ⟨k1, k2⟩ := R_spl r s c.to h4
    have hlen : c.to.toNat ≤ (R s r).length := by
      have := congrArg List.length k2
      rw [List.length_take, List.length_take] at this
      omega
    have hf : (R s r).take c.from_.toNat = s.take c.from_.toNat := by
      have := congrArg (List.take c.from_.toNat) k2
      rwa [List.take_take, List.take_take, Nat.min_eq_left (by omega)] at this
    have hl2 : (s.take c.from_.toNat).length = c.from_.toNat := by rw [List.length_take]; omega
    unfold R spl
    rw [hf, k1, List.append_assoc]
    constructor
    · rw [List.drop_append_of_le_length (by rw [hl2]; omega), List.append_assoc]
      unfold cut
      rw [List.drop_take]
    · rw [List.take_append_of_le_length (by rw [hl2]; omega), List.take_take, Nat.min_eq_left (by omega)]
theorem R_len {l : List GEdit} {s : List UInt8} {a : Int} (h : seqd s a l) (ha : a ≤ (s.length : Int)) (h0 : 0 ≤ a) : a.toNat ≤ (R s l).length ∧ (R s l).length ≤ s.length + sumT l := by
  obtain ⟨k1, k2⟩ := R_spl l s a h
  have h1 := congrArg List.length k1
  have h2 := congrArg List.length k2
  have h3 := spl_len l s a h
  rw [List.length_drop] at h1
  rw [List.length_take, List.length_take] at h2
  omega
def oneR (m : List GEdit) (i : Int) (f : GFile) : GFile := ⟨f.path, R f.text (onF i m)⟩
theorem seqd_drop {fs : List GFile} {m : List GEdit} (hg : Good fs m) (k : Nat) (hk : k < m.length) : seqd (txt fs m[k].file_) m[k].to (onF m[k].file_ (m.drop (k + 1))) := by
  have hr := hg.right _ (List.getElem_mem hk)
  refine good_seqd _ _ _ (by have := hr.2.2.1; have := hr.2.2.2.1; omega) hr.2.2.2.2 (fun c hc he => ?_) (fun c hc => hg.right c (List.mem_of_mem_drop hc)) (hg.gap.sublist (List.drop_sublist _ _))
  obtain ⟨i, hi, rfl⟩ := List.mem_iff_getElem.1 hc
  rw [List.length_drop] at hi
  rw [List.getElem_drop] at he ⊢
  have := List.pairwise_iff_getElem.1 hg.gap k (k + 1 + i) hk (by omega) (by omega)
  unfold G at this; omega
theorem sumT_onF (i : Int) (m : List GEdit) : sumT (onF i m) ≤ sumT m := sumT_filter _ _
theorem sumT_dropL (m : List GEdit) (k : Nat) : sumT (m.drop k) ≤ sumT m := by
  have := sumT_append (m.take k) (m.drop k)
  rw [List.take_append_drop] at this; omega
theorem rapply_loop (fs : List GFile) (mm : List GEdit × Int) (hfs : fs.length ≤ 1000000) (hn : mm.1.length ≤ 1000000) (ht : ∀ f ∈ fs, sumT mm.1 + f.text.length ≤ 2000000000) (hg : Good fs mm.1) :
    loopS (emendref20_Apply_b2 mm) (((mm.1.length : Int) - 1), fs) = some (applyS fs mm.1) := by
  obtain ⟨m, e⟩ := mm
  dsimp only at hn ht hg ⊢
  obtain ⟨r, h1, h2⟩ := loopS_ix (f := emendref20_Apply_b2 (m, e)) m.length (by omega)
    (fun k x => x.1 = (m.length : Int) - 1 - (k : Int) ∧ x.2.length = fs.length ∧ ∀ j : Nat, x.2[j]? = fs[j]?.map (oneR (m.drop (m.length - k)) j))
    (fun r => r = applyS fs m) (s0 := (((m.length : Int) - 1), fs)) ⟨by simp, rfl, fun j => by rw [Nat.sub_zero, List.drop_length]; show fs[j]? = fs[j]?.map fun f => f; cases fs[j]? <;> rfl⟩ (by
    rintro k ⟨x1, out⟩ hk ⟨h1, hl, ho⟩
    dsimp only at h1 hl ho
    subst h1
    unfold emendref20_Apply_b2
    obtain ⟨i, hi⟩ : ∃ i : Nat, i = m.length - (k + 1) := ⟨_, rfl⟩
    have hik : i < m.length := by omega
    have e1 : (m.length : Int) - 1 - (k : Int) = (i : Int) := by omega
    have e2 : m.length - k = i + 1 := by omega
    rw [e2] at ho
    have hr := hg.right _ (List.getElem_mem hik)
    have hsq := seqd_drop hg i hik
    obtain ⟨c, hc⟩ : ∃ c, c = m[i] := ⟨_, rfl⟩
    have hd : m.drop i = c :: m.drop (i + 1) := by rw [hc]; exact List.drop_eq_getElem_cons hik
    have hx : Sh.ix m (i : Int) = some c := by rw [hc]; exact ix_at hik
    rw [← hc] at hr hsq
    obtain ⟨a1, a2, a3, a4, a5⟩ := hr
    obtain ⟨f, hfx, hft, hf⟩ := ix_in a1 a2
    rw [← hft] at hsq a5
    obtain ⟨j0, hj0⟩ := Int.eq_ofNat_of_zero_le a1
    have hj0' : c.file_.toNat = j0 := by omega
    rw [hj0'] at hf
    have hout : out[j0]? = some (oneR (m.drop (i + 1)) j0 f) := by rw [ho j0, hf]; rfl
    have hox : Sh.ix out c.file_ = some (oneR (m.drop (i + 1)) j0 f) := ix_of hout hj0
    have hRl := R_len hsq a5 (by omega)
    have hsum : sumT (onF c.file_ (m.drop (i + 1))) ≤ sumT m := Nat.le_trans (sumT_onF _ _) (sumT_dropL _ _)
    have htf := ht f (List.mem_of_getElem? hf)
    have htc : c.text.length ≤ sumT m := by
      have := sumT_drop m i hik
      rw [← hc] at this
      have := sumT_dropL m i
      omega
    have hRe : (oneR (m.drop (i + 1)) j0 f).text = R f.text (onF c.file_ (m.drop (i + 1))) := by unfold oneR; rw [hj0]
    generalize hRR : R f.text (onF c.file_ (m.drop (i + 1))) = RR at hRl hRe
    left
    refine ⟨((i : Int) - 1, out.set j0 ⟨f.path, RR.take c.from_.toNat ++ c.text ++ RR.drop c.to.toNat⟩), ?_, ?_, ?_, ?_⟩
    · rw [e1]
      simp only [chkB, dT (show (0 : Int) ≤ (i : Int) by omega), if_true, hx, hox, Option.bind_some, hRe]
      rw [pk ⟨a3, by omega⟩, pk (by rw [List.length_take]; omega), pk ⟨by omega, by omega⟩, pk (by rw [List.length_append, List.length_take, List.length_drop]; omega), pk (i64_small (by omega) (by omega)), hj0']
      rfl
    · show (i : Int) - 1 = (m.length : Int) - 1 - ((k + 1 : Nat) : Int); omega
    · rw [List.length_set]; exact hl
    · intro j
      dsimp only
      rw [show m.length - (k + 1) = i by omega, List.getElem?_set]
      have hj0l : j0 < out.length := by rw [hl]; omega
      by_cases e : j0 = j
      · subst e
        rw [if_pos rfl, if_pos hj0l, hf]
        show some _ = some (oneR (m.drop i) j0 f)
        unfold oneR
        rw [hd, onF_pos (show c.file_ = ((j0 : Nat) : Int) from hj0), show ((j0 : Nat) : Int) = c.file_ from hj0.symm]
        show _ = some (⟨f.path, R f.text (c :: onF c.file_ (m.drop (i + 1)))⟩ : GFile)
        unfold R
        rw [hRR]
      · rw [if_neg e, ho j]
        unfold oneR
        rw [hd, onF_neg (show ¬ c.file_ = (j : Int) by omega)]) (by
    rintro ⟨x1, out⟩ ⟨h1, hl, ho⟩
    dsimp only at h1 hl ho
    subst h1
    unfold emendref20_Apply_b2
    have hlt : ¬ (0 : Int) ≤ (m.length : Int) - 1 - (m.length : Int) := by omega
    refine ⟨_, if_neg (by rw [dF hlt]; simp), ?_⟩
    rw [Nat.sub_self, List.drop_zero] at ho
    apply List.ext_getElem?
    intro j
    rw [ho j, applyS_at]
    cases hf : fs[j]? with
    | none => rfl
    | some f =>
      show some _ = some _
      congr 1
      unfold oneR oneF
      have hs := hg.seqd (j : Int)
      rw [txt_at hf] at hs
      have := (R_spl _ _ _ hs).1
      rw [show (0 : Int).toNat = 0 from rfl, List.drop_zero] at this
      rw [this])
  rw [h1, h2]
theorem rapply_eq (fs : List GFile) (l : List GEdit) (hfs : fs.length ≤ 1000000) (hn : l.length ≤ 1000000) (ht : sumT l ≤ 1000000000) (hf : ∀ f ∈ fs, f.text.length ≤ 1000000000) : emendref20_Apply fs l = some (appliedS fs l) := by
  unfold emendref20_Apply appliedS
  rw [rnormal_eq fs l hn ht]
  simp only [Option.bind_some, chkB]
  by_cases h : (normS fs l).2 = 0
  · have h1 := normS_len fs l
    have h2 := normS_sum fs l
    rw [if_pos h, if_neg (by rw [dT h]; simp)]
    rw [pk (by simp; omega), pk (i64_small (by omega) (by omega)), List.nil_append]
    rw [rapply_loop fs _ hfs (by omega) (fun f hh => by have := hf f hh; omega) (normS_good h)]
    rfl
  · rw [if_neg h, if_pos (by rw [dF h]; rfl)]
end Go.Sh
