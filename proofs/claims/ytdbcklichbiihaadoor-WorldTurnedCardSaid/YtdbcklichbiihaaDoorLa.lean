/-
  What the laws of this seat share: the program's shape; the listed tables; the library's variable.
-/
import Derived.Test.YtdbcklichbiihaaDoorRows
import Derived.Test.YtdbcklichbiihaaDoorCards
import Derived.Test.YtdbcklichbiihaaDoorTie
import Derived.Test.YtdbcklichbiihaaDoorVq
import Derived.Test.YtdbcklichbiihaaDoorTyz
import Derived.Test.YtdbcklichbiihaaDoorPe
import Derived.Test.YtdbcklichbiihaaDoorLi
import Derived.Test.YtdbcklichbiihaaDoorShelf
import Derived.ProofKit
import Derived.Lay
import Derived.HandedShaped
set_option linter.unusedVariables false
set_option linter.unusedSimpArgs false
set_option maxRecDepth 100000
namespace Go.Proofs.YtdbcklichbiihaaDoor
open Go Go.ChangeShapes Go.WideShapes Go.ChangeAt Go.RowKit Go.Vc
theorem Tryd.own : ownKnob Tryd.prog.godebug = none := by kernel_rfl
theorem Tryd.laidOut : laidOutB Tryd.prog = true := by kernel_rfl
/-- internal/bytealg.MaxLen holds some int -/
theorem Tryd.maxLen {W : World} (h : W.ShapedOpen Tryd.prog) : ∃ m, W.cell? ⟨2, 0, none⟩ = some (.int .i64 m) := Tryd.laysM143.s1_3 W h
theorem ints_typed {e : TypeId} {n : Nat} (hu : Tryd.prog.underlying e = some (.int .i64)) (es : List (List AV)) (h : ∀ x ∈ es, TypedC Tryd.prog (n + 1) e x) : ∃ l : List Int, es = l.map cI ∧ ∀ i ∈ l, inR .i64 i :=
  typed_list cI (fun i => inR .i64 i) (fun x h => by obtain ⟨i, hi, rfl⟩ := h.int hu; exact ⟨i, hi, rfl⟩) es h
theorem strs_typed {e : TypeId} {n : Nat} (hu : Tryd.prog.underlying e = some .string) (es : List (List AV)) (h : ∀ x ∈ es, TypedC Tryd.prog (n + 1) e x) : ∃ l : List (List UInt8), es = l.map cS ∧ ∀ s ∈ l, s.length ≤ maxLen :=
  typed_list cS (fun s => s.length ≤ maxLen) (fun x h => by obtain ⟨s, hs, hx⟩ := h.string hu; exact ⟨s, hs, hx⟩) es h
theorem GFile_of {n : Nat} {x : List AV} (h : TypedC Tryd.prog (n + 2) 39 x) : ∃ o : Sh.GFile, (o.path.length ≤ maxLen ∧ o.text.length ≤ maxLen ∧ True) ∧ x = cGFile o := by
    have h := h.struct Tryd.underlying39
    obtain ⟨x0, y0, e0, h0, h⟩ := h
    obtain ⟨x1, y1, e1, h1, h⟩ := h
    obtain ⟨v0, k0, q0⟩ := h0.string Tryd.underlying9
    obtain ⟨v1, k1, q1⟩ := h1.string Tryd.underlying9
    have h : y1 = [] := h
    subst q0 q1
    subst h
    subst e1
    subst e0
    exact ⟨⟨v0, v1⟩, ⟨k0, k1, trivial⟩, rfl⟩
theorem GFile_typed {n : Nat} (es : List (List AV)) (h : ∀ x ∈ es, TypedC Tryd.prog (n + 2) 39 x) : ∃ l : List Sh.GFile, es = l.map cGFile ∧ ∀ o ∈ l, o.path.length ≤ maxLen ∧ o.text.length ≤ maxLen ∧ True :=
  typed_list cGFile (fun o => o.path.length ≤ maxLen ∧ o.text.length ≤ maxLen ∧ True) (fun x h => GFile_of h) es h
abbrev laidAll : List (String × DataW Unit) := [("emend/direct.words", Rows.laid_emend_direct_words), ("emend/pptok.signs", Rows.laid_emend_pptok_signs)]
theorem door_met (os : Os) (args : Array Value) : laidMetH Tryd.prog laidAll ((World.laidAll Tryd.prog os laidAll).forCall (fun _ _ => 0) ⟨#[], args, []⟩).memory := by
  rw [MakeChecks.laidMetH_plain _ _ _ (by kernel_rfl)]
  exact laidMet_laidAll args (by kernel_rfl) (by kernel_rfl)
theorem g_words : Tryd.prog.globalNamed "emend/direct.words" = some 1 := by kernel_rfl
theorem gt_words : (Tryd.prog.globals[1]?).map (·.type) = some 111 := by kernel_rfl
theorem d_words : (Rows.laid_emend_direct_words : DataW Unit) = .agg (Sh.words.map fun l => .lit (.string l)) := rfl
theorem g_signs : Tryd.prog.globalNamed "emend/pptok.signs" = some 0 := by kernel_rfl
theorem gt_signs : (Tryd.prog.globals[0]?).map (·.type) = some 110 := by kernel_rfl
theorem d_signs : (Rows.laid_emend_pptok_signs : DataW Unit) = .agg (Sh.signs.map fun l => .lit (.string l)) := rfl

theorem tabs_of_laid {W : World} (h : laidMetH Tryd.prog laidAll W) : TabS W 1 Sh.words ∧ TabS W 0 Sh.signs := by
  rw [MakeChecks.laidMetH_plain _ _ _ (by kernel_rfl)] at h
  obtain ⟨ps, h, _⟩ := h
  obtain ⟨g0, t0, cs0, f0, p0, q0, hg0, ht0, hv0, hd0, h, _⟩ := h
  obtain rfl := Option.some.inj (g_words.symm.trans hg0)
  obtain rfl := Option.some.inj (gt_words.symm.trans ht0)
  rw [d_words] at hd0
  obtain ⟨g1, t1, cs1, f1, p1, q1, hg1, ht1, hv1, hd1, h, _⟩ := h
  obtain rfl := Option.some.inj (g_signs.symm.trans hg1)
  obtain rfl := Option.some.inj (gt_signs.symm.trans ht1)
  rw [d_signs] at hd1
  exact ⟨tab_of_trod g_words hv0 Tryd.underlying111 Tryd.underlying9 (by kernel_rfl) (by decide) hd0, tab_of_trod g_signs hv1 Tryd.underlying110 Tryd.underlying9 (by kernel_rfl) (by decide) hd1⟩
/-- what is only read -/
def H0 (m : Int) : Heap := (((Heap.empty.set 2 (.ro [.int .i64 m])).set 1 (.ro (Sh.words.map fun l => Value.string ⟨⟨l⟩⟩))).set 0 (.ro (Sh.signs.map fun l => Value.string ⟨⟨l⟩⟩)))
theorem H0_dom (m : Int) : ∀ k, ¬ (H0 m).dom k := (ro_dom2 (ro_dom2 ro_dom))
theorem H0_heap {W : World} {m : Int} (h : laidMetH Tryd.prog laidAll W) (hm : W.cell? ⟨2, 0, none⟩ = some (.int .i64 m)) : HeapR W (H0 m) := by
  obtain ⟨ht0, ht1⟩ := tabs_of_laid h
  exact (HeapR.set_ro (ro_dom2 ro_dom) (HeapR.set_ro ro_dom (ro_heap hm) (ro_tab ht0)) (ro_tab ht1))
theorem H0_glob (m : Int) : Glob (H0 m) := ⟨⟨m, by simp [H0, Heap.set, Heap.empty]⟩, by simp [H0, Heap.set, Heap.empty], by simp [H0, Heap.set, Heap.empty]⟩
end Go.Proofs.YtdbcklichbiihaaDoor
