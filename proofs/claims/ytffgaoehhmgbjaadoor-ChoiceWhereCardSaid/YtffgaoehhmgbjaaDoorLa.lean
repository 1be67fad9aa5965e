/-
  What the laws of this seat share: the program's shape; the listed tables; the library's variable.
-/
import Derived.Test.YtffgaoehhmgbjaaDoorRows
import Derived.Test.YtffgaoehhmgbjaaDoorCards
import Derived.Test.YtffgaoehhmgbjaaDoorTie
import Derived.Test.YtffgaoehhmgbjaaDoorVq
import Derived.Test.YtffgaoehhmgbjaaDoorTyz
import Derived.Test.YtffgaoehhmgbjaaDoorPe
import Derived.Test.YtffgaoehhmgbjaaDoorLi
import Derived.Test.YtffgaoehhmgbjaaDoorShelf
import Derived.ProofKit
import Derived.HandedShaped
set_option linter.unusedVariables false
set_option linter.unusedSimpArgs false
set_option maxRecDepth 100000
namespace Go.Proofs.YtffgaoehhmgbjaaDoor
open Go Go.ChangeShapes Go.WideShapes Go.ChangeAt Go.RowKit Go.Vc
theorem Tryd.own : ownKnob Tryd.prog.godebug = none := by kernel_rfl
theorem Tryd.laidOut : laidOutB Tryd.prog = true := by kernel_rfl
/-- internal/bytealg.MaxLen holds some int -/
theorem Tryd.maxLen {W : World} (h : W.ShapedOpen Tryd.prog) : ∃ m, W.cell? ⟨1, 0, none⟩ = some (.int .i64 m) := Tryd.laysM143.s1_3 W h
theorem ints_typed {e : TypeId} {n : Nat} (hu : Tryd.prog.underlying e = some (.int .i64)) (es : List (List AV)) (h : ∀ x ∈ es, TypedC Tryd.prog (n + 1) e x) : ∃ l : List Int, es = l.map cI ∧ ∀ i ∈ l, inR .i64 i :=
  typed_list cI (fun i => inR .i64 i) (fun x h => by obtain ⟨i, hi, rfl⟩ := h.int hu; exact ⟨i, hi, rfl⟩) es h
theorem strs_typed {e : TypeId} {n : Nat} (hu : Tryd.prog.underlying e = some .string) (es : List (List AV)) (h : ∀ x ∈ es, TypedC Tryd.prog (n + 1) e x) : ∃ l : List (List UInt8), es = l.map cS ∧ ∀ s ∈ l, s.length ≤ maxLen :=
  typed_list cS (fun s => s.length ≤ maxLen) (fun x h => by obtain ⟨s, hs, hx⟩ := h.string hu; exact ⟨s, hs, hx⟩) es h
abbrev laidAll : List (String × DataW Unit) := [("emend/pptok.signs", Rows.laid_emend_pptok_signs)]
theorem door_met (os : Os) (args : Array Value) : laidMetH Tryd.prog laidAll ((World.doorLaid Tryd.prog 14 os).forCall (fun _ _ => 0) ⟨#[], args, []⟩).memory :=
  laidMetH_of_parts3 (fuel := 8) (laidMet_of_run' 8 (by kernel_rfl) (by kernel_rfl)) (by kernel_rfl) (by kernel_rfl)
theorem g_signs : Tryd.prog.globalNamed "emend/pptok.signs" = some 0 := by kernel_rfl
theorem gt_signs : (Tryd.prog.globals[0]?).map (·.type) = some 113 := by kernel_rfl
theorem d_signs : (Rows.laid_emend_pptok_signs : DataW Unit) = .agg (Sh.signs.map fun l => .lit (.string l)) := rfl

theorem tabs_of_laid {W : World} (h : laidMetH Tryd.prog laidAll W) : TabS W 0 Sh.signs := by
  rw [MakeChecks.laidMetH_plain _ _ _ (by kernel_rfl)] at h
  obtain ⟨ps, h, _⟩ := h
  obtain ⟨g0, t0, cs0, f0, p0, q0, hg0, ht0, hv0, hd0, h, _⟩ := h
  obtain rfl := Option.some.inj (g_signs.symm.trans hg0)
  obtain rfl := Option.some.inj (gt_signs.symm.trans ht0)
  rw [d_signs] at hd0
  exact (tab_of_trod g_signs hv0 Tryd.underlying113 Tryd.underlying9 (by kernel_rfl) (by decide) hd0)
/-- what is only read -/
def H0 (m : Int) : Heap := ((Heap.empty.set 1 (.ro [.int .i64 m])).set 0 (.ro (Sh.signs.map fun l => Value.string ⟨⟨l⟩⟩)))
theorem H0_dom (m : Int) : ∀ k, ¬ (H0 m).dom k := (ro_dom2 ro_dom)
theorem H0_heap {W : World} {m : Int} (h : laidMetH Tryd.prog laidAll W) (hm : W.cell? ⟨1, 0, none⟩ = some (.int .i64 m)) : HeapR W (H0 m) := by
  have ht0 := tabs_of_laid h
  exact (HeapR.set_ro ro_dom (ro_heap hm) (ro_tab ht0))
theorem H0_glob (m : Int) : Glob (H0 m) := ⟨⟨m, by simp [H0, Heap.set, Heap.empty]⟩, by simp [H0, Heap.set, Heap.empty]⟩
end Go.Proofs.YtffgaoehhmgbjaaDoor
