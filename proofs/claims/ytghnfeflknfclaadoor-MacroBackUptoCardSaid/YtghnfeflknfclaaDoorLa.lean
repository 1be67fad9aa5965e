/-
  What the laws of this seat share: the program's shape; the listed tables; the library's variable.
-/
import Derived.Test.YtghnfeflknfclaaDoorRows
import Derived.Test.YtghnfeflknfclaaDoorCards
import Derived.Test.YtghnfeflknfclaaDoorTie
import Derived.Test.YtghnfeflknfclaaDoorVq
import Derived.Test.YtghnfeflknfclaaDoorTyz
import Derived.Test.YtghnfeflknfclaaDoorPe
import Derived.Test.YtghnfeflknfclaaDoorLi
import Derived.Test.YtghnfeflknfclaaDoorShelf
import Derived.ProofKit
import Derived.HandedShaped
set_option linter.unusedVariables false
set_option linter.unusedSimpArgs false
set_option maxRecDepth 100000
namespace Go.Proofs.YtghnfeflknfclaaDoor
open Go Go.ChangeShapes Go.WideShapes Go.ChangeAt Go.RowKit Go.Vc
theorem Tryd.own : ownKnob Tryd.prog.godebug = none := by kernel_rfl
theorem Tryd.laidOut : laidOutB Tryd.prog = true := by kernel_rfl
/-- internal/bytealg.MaxLen holds some int -/
theorem Tryd.maxLen {W : World} (h : W.ShapedOpen Tryd.prog) : ∃ m, W.cell? ⟨2, 0, none⟩ = some (.int .i64 m) := Tryd.laysM143.s1_3 W h
theorem ints_typed {e : TypeId} {n : Nat} (hu : Tryd.prog.underlying e = some (.int .i64)) (es : List (List AV)) (h : ∀ x ∈ es, TypedC Tryd.prog (n + 1) e x) : ∃ l : List Int, es = l.map cI ∧ ∀ i ∈ l, inR .i64 i :=
  typed_list cI (fun i => inR .i64 i) (fun x h => by obtain ⟨i, hi, rfl⟩ := h.int hu; exact ⟨i, hi, rfl⟩) es h
theorem strs_typed {e : TypeId} {n : Nat} (hu : Tryd.prog.underlying e = some .string) (es : List (List AV)) (h : ∀ x ∈ es, TypedC Tryd.prog (n + 1) e x) : ∃ l : List (List UInt8), es = l.map cS ∧ ∀ s ∈ l, s.length ≤ maxLen :=
  typed_list cS (fun s => s.length ≤ maxLen) (fun x h => by obtain ⟨s, hs, hx⟩ := h.string hu; exact ⟨s, hs, hx⟩) es h
theorem GTok_of {n : Nat} {x : List AV} (h : TypedC Tryd.prog (n + 2) 38 x) : ∃ o : Sh.GTok, (inR .i64 o.kind ∧ o.text.length ≤ maxLen ∧ inR .i64 o.file_ ∧ inR .i64 o.from_ ∧ inR .i64 o.to ∧ True) ∧ x = cGTok o := by
    have h := h.struct Tryd.underlying38
    obtain ⟨x0, y0, e0, h0, h⟩ := h
    obtain ⟨x1, y1, e1, h1, h⟩ := h
    obtain ⟨x2, y2, e2, h2, h⟩ := h
    obtain ⟨x3, y3, e3, h3, h⟩ := h
    obtain ⟨x4, y4, e4, h4, h⟩ := h
    obtain ⟨x5, y5, e5, h5, h⟩ := h
    obtain ⟨v0, k0, q0⟩ := h0.int Tryd.underlying3
    obtain ⟨v1, k1, q1⟩ := h1.string Tryd.underlying9
    obtain ⟨v2, k2, q2⟩ := h2.int Tryd.underlying3
    obtain ⟨v3, k3, q3⟩ := h3.int Tryd.underlying3
    obtain ⟨v4, k4, q4⟩ := h4.int Tryd.underlying3
    obtain ⟨v5, q5⟩ := h5.bool Tryd.underlying4
    have h : y5 = [] := h
    subst q0 q1 q2 q3 q4 q5
    subst h
    subst e5
    subst e4
    subst e3
    subst e2
    subst e1
    subst e0
    exact ⟨⟨v0, v1, v2, v3, v4, v5⟩, ⟨k0, k1, k2, k3, k4, trivial⟩, rfl⟩
theorem GTok_typed {n : Nat} (es : List (List AV)) (h : ∀ x ∈ es, TypedC Tryd.prog (n + 2) 38 x) : ∃ l : List Sh.GTok, es = l.map cGTok ∧ ∀ o ∈ l, inR .i64 o.kind ∧ o.text.length ≤ maxLen ∧ inR .i64 o.file_ ∧ inR .i64 o.from_ ∧ inR .i64 o.to ∧ True :=
  typed_list cGTok (fun o => inR .i64 o.kind ∧ o.text.length ≤ maxLen ∧ inR .i64 o.file_ ∧ inR .i64 o.from_ ∧ inR .i64 o.to ∧ True) (fun x h => GTok_of h) es h
abbrev laidAll : List (String × DataW Unit) := [("emend/pptok.signs", Rows.laid_emend_pptok_signs)]
theorem door_met (os : Os) (args : Array Value) : laidMetH Tryd.prog laidAll ((World.doorLaid Tryd.prog 19 os).forCall (fun _ _ => 0) ⟨#[], args, []⟩).memory :=
  laidMetH_of_parts3 (fuel := 8) (laidMet_of_run' 8 (by kernel_rfl) (by kernel_rfl)) (by kernel_rfl) (by kernel_rfl)
theorem g_signs : Tryd.prog.globalNamed "emend/pptok.signs" = some 1 := by kernel_rfl
theorem gt_signs : (Tryd.prog.globals[1]?).map (·.type) = some 120 := by kernel_rfl
theorem d_signs : (Rows.laid_emend_pptok_signs : DataW Unit) = .agg (Sh.signs.map fun l => .lit (.string l)) := rfl

theorem tabs_of_laid {W : World} (h : laidMetH Tryd.prog laidAll W) : TabS W 1 Sh.signs := by
  rw [MakeChecks.laidMetH_plain _ _ _ (by kernel_rfl)] at h
  obtain ⟨ps, h, _⟩ := h
  obtain ⟨g0, t0, cs0, f0, p0, q0, hg0, ht0, hv0, hd0, h, _⟩ := h
  obtain rfl := Option.some.inj (g_signs.symm.trans hg0)
  obtain rfl := Option.some.inj (gt_signs.symm.trans ht0)
  rw [d_signs] at hd0
  exact (tab_of_trod g_signs hv0 Tryd.underlying120 Tryd.underlying9 (by kernel_rfl) (by decide) hd0)
/-- what is only read -/
def H0 (m : Int) : Heap := ((Heap.empty.set 2 (.ro [.int .i64 m])).set 1 (.ro (Sh.signs.map fun l => Value.string ⟨⟨l⟩⟩)))
theorem H0_dom (m : Int) : ∀ k, ¬ (H0 m).dom k := (ro_dom2 ro_dom)
theorem H0_heap {W : World} {m : Int} (h : laidMetH Tryd.prog laidAll W) (hm : W.cell? ⟨2, 0, none⟩ = some (.int .i64 m)) : HeapR W (H0 m) := by
  have ht0 := tabs_of_laid h
  exact (HeapR.set_ro ro_dom (ro_heap hm) (ro_tab ht0))
theorem H0_glob (m : Int) : Glob (H0 m) := ⟨⟨m, by simp [H0, Heap.set, Heap.empty]⟩, by simp [H0, Heap.set, Heap.empty]⟩
end Go.Proofs.YtghnfeflknfclaaDoor
