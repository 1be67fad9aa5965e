/-
  Plain words for what the library makes of a list: sorted edits, sorted numbers, numbers once each, what is left of a list. No program in sight.
-/
import Derived.Test.YtdflfbolaicliaaPt
import Derived.Sort.AssemblyPlain
import Derived.Shelf.SlSortCmp.Insertion
import Derived.Lib.SlicesCompact
import Derived.Lib.Small
import Derived.Lib.BitFns
set_option linter.unusedVariables false
set_option linter.unusedSimpArgs false
namespace Go.Sh
open Go Go.Proofs
def orI : List Int → Int
  | [] => 0
  | z :: zs => if z = 0 then orI zs else z
def cmpE (x y : GEdit) : Int := orI [Lib.compareInt x.file_ y.file_, Lib.compareInt x.from_ y.from_, Lib.compareInt x.to y.to]
instance : Inhabited GEdit := ⟨⟨0, 0, 0, []⟩⟩
theorem orI3 (a b c : Int) : orI [a, b, c] = if a ≠ 0 then a else if b ≠ 0 then b else c := by
  unfold orI orI orI orI
  by_cases h1 : a = 0 <;> by_cases h2 : b = 0 <;> by_cases h3 : c = 0 <;> simp [h1, h2, h3]
theorem cmp_neg (a b : Int) : Lib.compareInt a b < 0 ↔ a < b := by
  unfold Lib.compareInt
  by_cases h1 : a < b
  · simp [h1]
  · by_cases h2 : b < a <;> simp [h1, h2]
theorem cmp_zero (a b : Int) : Lib.compareInt a b = 0 ↔ a = b := by
  unfold Lib.compareInt
  by_cases h1 : a < b
  · simp [h1]; omega
  · by_cases h2 : b < a
    · simp [h1, h2]; omega
    · simp [h1, h2]; omega
/-- ahead: by file, from, to -/
def aheadE (x y : GEdit) : Prop := x.file_ < y.file_ ∨ x.file_ = y.file_ ∧ (x.from_ < y.from_ ∨ x.from_ = y.from_ ∧ x.to < y.to)
theorem lt_ahead (x y : GEdit) : ltOf cmpE x y = true ↔ aheadE x y := by
  have e : ltOf cmpE x y = decide (cmpE x y < 0) := rfl
  rw [e, decide_eq_true_eq]
  unfold cmpE
  rw [orI3]
  have a1 := cmp_neg x.file_ y.file_
  have a2 := cmp_zero x.file_ y.file_
  have b1 := cmp_neg x.from_ y.from_
  have b2 := cmp_zero x.from_ y.from_
  have c1 := cmp_neg x.to y.to
  unfold aheadE
  split
  · rename_i h; rw [a1]
    constructor
    · exact fun h => .inl h
    · rintro (h1 | ⟨h1, _⟩)
      · exact h1
      · exact absurd (a2.2 h1) h
  · rename_i h
    have h : x.file_ = y.file_ := a2.1 (by simpa using h)
    split
    · rename_i k; rw [b1]
      constructor
      · exact fun q => .inr ⟨h, .inl q⟩
      · rintro (q | ⟨_, q | ⟨q, _⟩⟩)
        · omega
        · exact q
        · exact absurd (b2.2 q) k
    · rename_i k
      have k : x.from_ = y.from_ := b2.1 (by simpa using k)
      rw [c1]
      constructor
      · exact fun q => .inr ⟨h, .inr ⟨k, q⟩⟩
      · rintro (q | ⟨_, q | ⟨_, q⟩⟩)
        · omega
        · omega
        · exact q
theorem lt_not (x y : GEdit) : ltOf cmpE x y = false ↔ ¬ aheadE x y := by
  rw [← lt_ahead]; simp
theorem swoE : Go.Sort.SWO (ltOf cmpE) where
  irrefl x := by rw [lt_not]; unfold aheadE; omega
  trans x y z h1 h2 := by rw [lt_ahead] at *; unfold aheadE at *; omega
  ntrans x y z h1 h2 := by rw [lt_not] at *; unfold aheadE at *; omega
/-- what the library makes of a list of edits -/
def sortE (l : List GEdit) : List GEdit := (Go.Sort.pdq (ltOf cmpE) l.toArray 0 l.length (Lib.bitLen l.length) true true).toList
theorem sortE_spec (l : List GEdit) : (sortE l).Perm l ∧ (sortE l).Pairwise fun x y => ¬ aheadE y x := by
  have h := Go.Sort.pdq_sorts (ltOf cmpE) swoE l.toArray 0 l.toArray.size (Lib.bitLen l.toArray.size) true true (Nat.zero_le _) (Nat.le_refl _) (Or.inl rfl)
  have e : (Go.Sort.pdq (ltOf cmpE) l.toArray 0 l.toArray.size (Lib.bitLen l.toArray.size) true true).toList = sortE l := rfl
  generalize hd : Go.Sort.pdq (ltOf cmpE) l.toArray 0 l.toArray.size (Lib.bitLen l.toArray.size) true true = d at h e
  obtain ⟨⟨h1, h2, h3⟩, h4⟩ := h
  have hs : d.size = l.length := by simpa using h1
  have e1 : d.extract 0 l.toArray.size = d := by rw [← h1]; simp
  have e2 : l.toArray.extract 0 l.toArray.size = l.toArray := by simp
  rw [e1, e2] at h3
  rw [← e]
  refine ⟨by simpa using h3, List.pairwise_iff_getElem.2 fun i j hi hj hij => ?_⟩
  have hi' : i < d.size := by simpa using hi
  have hj' : j < d.size := by simpa using hj
  have := h4 i j (Nat.zero_le _) hij (by simpa [hs] using hj')
  rw [lt_not, getElem!_pos d i hi', getElem!_pos d j hj'] at this
  simpa using this
theorem sortE_len (l : List GEdit) : (sortE l).length = l.length := (sortE_spec l).1.length_eq
def sortI (l : List Int) : List Int := l.mergeSort fun x y => decide (x ≤ y)
def compI (l : List Int) : List Int := Lib.compact l
theorem sortI_len (l : List Int) : (sortI l).length = l.length := by simp [sortI]
/-- what is left of a list, of which each is told -/
def delF {α : Type} (f : α → Option Bool) : List α → Option (List α)
  | [] => some []
  | x :: l => (f x).bind fun b => (delF f l).bind fun r => some (if b = true then r else x :: r)
theorem delF_some {α : Type} {f : α → Option Bool} : ∀ {l r : List α}, delF f l = some r → (∀ x ∈ l, f x = some ((f x).getD false)) ∧ r = l.filter fun x => !(f x).getD false
  | [], r, h => ⟨fun x hx => (by cases hx), (Option.some.inj h).symm⟩
  | x :: l, r, h => by
    unfold delF at h
    cases hb : f x with
    | none => rw [hb] at h; cases h
    | some b =>
      rw [hb] at h
      cases hr : delF f l with
      | none => simp [hr] at h
      | some r2 =>
        simp only [hr, Option.bind_some, Option.some.injEq] at h
        obtain ⟨h1, h2⟩ := delF_some hr
        refine ⟨fun y hy => ?_, ?_⟩
        · rcases List.mem_cons.1 hy with e | e
          · subst e; rw [hb]; rfl
          · exact h1 y e
        · rw [List.filter_cons, hb, ← h2, ← h]
          cases b <;> rfl
theorem delF_of {α : Type} {f : α → Option Bool} {p : α → Bool} : ∀ {l : List α}, (∀ x ∈ l, f x = some (p x)) → delF f l = some (l.filter fun x => !p x)
  | [], h => rfl
  | x :: l, h => by
    unfold delF
    rw [h x (List.mem_cons_self ..), delF_of fun y hy => h y (List.mem_cons_of_mem _ hy), List.filter_cons]
    cases p x <;> rfl
end Go.Sh
