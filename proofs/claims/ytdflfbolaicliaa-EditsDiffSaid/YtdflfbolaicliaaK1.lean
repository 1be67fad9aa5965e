/-
  Edits in plain words: when one is right, idle, over another one; what stands in order; those that touch made one. No program in sight.
-/
import Derived.Test.YtdflfbolaicliaaT
import Derived.Test.YtdflfbolaicliaaK0
set_option linter.unusedVariables false
set_option linter.unusedSimpArgs false
namespace Go.Sh
open Go
def txt (fs : List GFile) (i : Int) : List UInt8 := (fs[i.toNat]?.map GFile.text).getD []
def cut (s : List UInt8) (a b : Int) : List UInt8 := (s.drop a.toNat).take (b.toNat - a.toNat)
def RightE (fs : List GFile) (c : GEdit) : Prop := 0 ≤ c.file_ ∧ c.file_ < (fs.length : Int) ∧ 0 ≤ c.from_ ∧ c.from_ ≤ c.to ∧ c.to ≤ ((txt fs c.file_).length : Int)
instance (fs : List GFile) (c : GEdit) : Decidable (RightE fs c) := inferInstanceAs (Decidable (_ ∧ _ ∧ _ ∧ _ ∧ _))
def idle (fs : List GFile) (c : GEdit) : Bool := decide (cut (txt fs c.file_) c.from_ c.to = c.text)
theorem ix_in {fs : List GFile} {i : Int} (h1 : 0 ≤ i) (h2 : i < (fs.length : Int)) : ∃ f, Sh.ix fs i = some f ∧ f.text = txt fs i ∧ fs[i.toNat]? = some f := by
  have hlt : i.toNat < fs.length := by omega
  refine ⟨fs[i.toNat], by unfold Sh.ix; rw [if_pos h1]; exact List.getElem?_eq_getElem hlt, ?_, List.getElem?_eq_getElem hlt⟩
  unfold txt; rw [List.getElem?_eq_getElem hlt]; rfl
theorem right_eq (c : GEdit) (fs : List GFile) : edits_change_right c fs = some (decide (RightE fs c)) := by
  unfold edits_change_right
  by_cases h1 : 0 ≤ c.file_
  · by_cases h2 : c.file_ < (fs.length : Int)
    · obtain ⟨f, hx, ht, _⟩ := ix_in h1 h2
      by_cases h3 : 0 ≤ c.from_
      · by_cases h4 : c.from_ ≤ c.to
        · have e : decide (RightE fs c) = decide (c.to ≤ (f.text.length : Int)) := by
            by_cases h5 : c.to ≤ (f.text.length : Int)
            · rw [dT h5, dT (show RightE fs c from ⟨h1, h2, h3, h4, by rw [← ht]; exact h5⟩)]
            · rw [dF h5, dF (show ¬ RightE fs c from fun h => h5 (by rw [ht]; exact h.2.2.2.2))]
          rw [e]
          simp [andB, h1, h2, h3, h4, hx]
        · rw [dF (show ¬ RightE fs c from fun h => h4 h.2.2.2.1)]
          simp [andB, h1, h2, h3, h4]
      · rw [dF (show ¬ RightE fs c from fun h => h3 h.2.2.1)]
        simp [andB, h1, h2, h3]
    · rw [dF (show ¬ RightE fs c from fun h => h2 h.2.1)]
      simp [andB, h1, h2]
  · rw [dF (show ¬ RightE fs c from fun h => h1 h.1)]
    simp [andB, h1]
theorem idle_eq {c : GEdit} {fs : List GFile} (h : RightE fs c) : edits_change_idle c fs = some (idle fs c) := by
  obtain ⟨h1, h2, h3, h4, h5⟩ := h
  obtain ⟨f, hx, ht, _⟩ := ix_in h1 h2
  unfold edits_change_idle idle cut
  rw [hx, ← ht]
  rw [← ht] at h5
  exact (chkT ⟨h3, h4, h5⟩).trans rfl
def overC (c d : GEdit) : Prop := c.file_ = d.file_ ∧ (d.from_ < c.to ∨ c.from_ = d.from_ ∧ c.to = d.to ∧ c.from_ = c.to)
instance (c d : GEdit) : Decidable (overC c d) := inferInstanceAs (Decidable (_ ∧ (_ ∨ _ ∧ _ ∧ _)))
theorem over_eq (c d : GEdit) : edits_change_over c d = some (decide (overC c d)) := by
  unfold edits_change_over
  by_cases h1 : c.file_ = d.file_
  · by_cases h2 : d.from_ < c.to
    · rw [dT (show overC c d from ⟨h1, .inl h2⟩)]
      simp [h1, orB, h2]
    · by_cases h3 : c.from_ = d.from_
      · by_cases h4 : c.to = d.to
        · by_cases h5 : c.from_ = c.to
          · rw [dT (show overC c d from ⟨h1, .inr ⟨h3, h4, h5⟩⟩)]
            simp only [dT h1, dF h2, dT h3, dT h4, dT h5, orB, andB]; rfl
          · rw [dF (show ¬ overC c d from fun h => by unfold overC at h; omega)]
            simp only [dT h1, dF h2, dT h3, dT h4, dF h5, orB, andB]; rfl
        · rw [dF (show ¬ overC c d from fun h => by unfold overC at h; omega)]
          simp only [dT h1, dF h2, dT h3, dF h4, orB, andB]; rfl
      · rw [dF (show ¬ overC c d from fun h => by unfold overC at h; omega)]
        simp only [dT h1, dF h2, dF h3, orB, andB]; rfl
  · rw [dF (show ¬ overC c d from fun h => h1 h.1)]
    simp only [dF h1]; rfl
/-- c stands ahead of d, and they share nothing -/
def T (c d : GEdit) : Prop := c.from_ ≤ c.to ∧ d.from_ ≤ d.to ∧ (c.file_ < d.file_ ∨ c.file_ = d.file_ ∧ c.to ≤ d.from_ ∧ c.from_ < d.to)
instance (c d : GEdit) : Decidable (T c d) := inferInstanceAs (Decidable (_ ∧ _ ∧ (_ ∨ _ ∧ _ ∧ _)))
theorem T.trans {a b c : GEdit} (h : T a b) (k : T b c) : T a c := by
  unfold T at *; omega
theorem T.ahead {a b : GEdit} (h : T a b) : aheadE a b := by
  unfold T at h; unfold aheadE; omega
theorem T_iff {c d : GEdit} (h1 : c.from_ ≤ c.to) (h2 : d.from_ ≤ d.to) (h : ¬ aheadE d c) : T c d ↔ ¬ overC c d := by
  unfold T overC; unfold aheadE at h; omega
theorem chain_pair {l : List GEdit} (hr : ∀ i : Nat, (h : i + 1 < l.length) → T l[i] l[i + 1]) : l.Pairwise T := by
  induction l with
  | nil => exact .nil
  | cons x r ih =>
    refine List.pairwise_cons.2 ⟨fun y hy => ?_, ih fun i h => hr (i + 1) (by simpa using h)⟩
    obtain ⟨j, hj, rfl⟩ := List.mem_iff_getElem.1 hy
    have key : ∀ j, (hj : j < r.length) → T x r[j] := by
      intro j
      induction j with
      | zero => exact fun hj => hr 0 (by simpa using hj)
      | succ j ihj => exact fun hj => (ihj (by omega)).trans (hr (j + 1) (by simpa using hj))
    exact key j hj
theorem pair_chain {l : List GEdit} (h : l.Pairwise T) (i : Nat) (hi : i + 1 < l.length) : T l[i] l[i + 1] := List.pairwise_iff_getElem.1 h i (i + 1) (by omega) hi (by omega)
/-- what is in order, strictly, is in order once -/
theorem ahead_irrefl (x : GEdit) : ¬ aheadE x x := by unfold aheadE; omega
theorem ahead_trans {x y z : GEdit} (h : aheadE x y) (k : aheadE y z) : aheadE x z := by unfold aheadE at *; omega
theorem ahead_asymm {x y : GEdit} (h : aheadE x y) : ¬ aheadE y x := by unfold aheadE at *; omega
theorem sorted_unique {a b : List GEdit} (h : a.Pairwise aheadE) (hb : b.Pairwise fun x y => ¬ aheadE y x) (hp : b.Perm a) : b = a := by
  have hin : ∀ x y, x ∈ a → y ∈ a → ¬ aheadE x y → ¬ aheadE y x → x = y := by
    intro x y hx hy h1 h2
    obtain ⟨i, hi, rfl⟩ := List.mem_iff_getElem.1 hx
    obtain ⟨j, hj, rfl⟩ := List.mem_iff_getElem.1 hy
    rcases Nat.lt_trichotomy i j with e | e | e
    · exact (h1 (List.pairwise_iff_getElem.1 h i j hi hj e)).elim
    · subst e; rfl
    · exact (h2 (List.pairwise_iff_getElem.1 h j i hj hi e)).elim
  exact List.Perm.eq_of_pairwise (le := fun x y => ¬ aheadE y x) (fun x y hx hy h1 h2 => hin x y (hp.mem_iff.1 hx) hy h2 h1) hb (h.imp ahead_asymm) hp
end Go.Sh
