/-
  What the laws of this seat share: the program's shape; the library's variable.
-/
import Derived.Test.YtdflfbolaicliaaRows
import Derived.Test.YtdflfbolaicliaaVo
import Derived.Test.YtdflfbolaicliaaTyz
import Derived.Test.YtdflfbolaicliaaVq
import Derived.Test.YtdflfbolaicliaaPe
import Derived.ProofKit
import Derived.HandedShaped
set_option linter.unusedVariables false
set_option linter.unusedSimpArgs false
set_option maxRecDepth 100000
namespace Go.Proofs.Ytdflfbolaicliaa
open Go Go.ChangeShapes Go.WideShapes Go.ChangeAt Go.RowKit Go.Vc
theorem Try.own : ownKnob Try.prog.godebug = none := by kernel_rfl
theorem Try.laidOut : laidOutB Try.prog = true := by kernel_rfl

theorem ints_typed {e : TypeId} {n : Nat} (hu : Try.prog.underlying e = some (.int .i64)) (es : List (List AV)) (h : ∀ x ∈ es, TypedC Try.prog (n + 1) e x) : ∃ l : List Int, es = l.map cI ∧ ∀ i ∈ l, inR .i64 i :=
  typed_list cI (fun i => inR .i64 i) (fun x h => by obtain ⟨i, hi, rfl⟩ := h.int hu; exact ⟨i, hi, rfl⟩) es h
theorem strs_typed {e : TypeId} {n : Nat} (hu : Try.prog.underlying e = some .string) (es : List (List AV)) (h : ∀ x ∈ es, TypedC Try.prog (n + 1) e x) : ∃ l : List (List UInt8), es = l.map cS ∧ ∀ s ∈ l, s.length ≤ maxLen :=
  typed_list cS (fun s => s.length ≤ maxLen) (fun x h => by obtain ⟨s, hs, hx⟩ := h.string hu; exact ⟨s, hs, hx⟩) es h
theorem GEdit_of {n : Nat} {x : List AV} (h : TypedC Try.prog (n + 2) 34 x) : ∃ o : Sh.GEdit, (inR .i64 o.file_ ∧ inR .i64 o.from_ ∧ inR .i64 o.to ∧ o.text.length ≤ maxLen ∧ True) ∧ x = cGEdit o := by
    have h := h.struct Try.underlying34
    obtain ⟨x0, y0, e0, h0, h⟩ := h
    obtain ⟨x1, y1, e1, h1, h⟩ := h
    obtain ⟨x2, y2, e2, h2, h⟩ := h
    obtain ⟨x3, y3, e3, h3, h⟩ := h
    obtain ⟨v0, k0, q0⟩ := h0.int Try.underlying3
    obtain ⟨v1, k1, q1⟩ := h1.int Try.underlying3
    obtain ⟨v2, k2, q2⟩ := h2.int Try.underlying3
    obtain ⟨v3, k3, q3⟩ := h3.string Try.underlying9
    have h : y3 = [] := h
    subst q0 q1 q2 q3
    subst h
    subst e3
    subst e2
    subst e1
    subst e0
    exact ⟨⟨v0, v1, v2, v3⟩, ⟨k0, k1, k2, k3, trivial⟩, rfl⟩
theorem GEdit_typed {n : Nat} (es : List (List AV)) (h : ∀ x ∈ es, TypedC Try.prog (n + 2) 34 x) : ∃ l : List Sh.GEdit, es = l.map cGEdit ∧ ∀ o ∈ l, inR .i64 o.file_ ∧ inR .i64 o.from_ ∧ inR .i64 o.to ∧ o.text.length ≤ maxLen ∧ True :=
  typed_list cGEdit (fun o => inR .i64 o.file_ ∧ inR .i64 o.from_ ∧ inR .i64 o.to ∧ o.text.length ≤ maxLen ∧ True) (fun x h => GEdit_of h) es h
theorem GFile_of {n : Nat} {x : List AV} (h : TypedC Try.prog (n + 2) 37 x) : ∃ o : Sh.GFile, (o.path.length ≤ maxLen ∧ o.text.length ≤ maxLen ∧ True) ∧ x = cGFile o := by
    have h := h.struct Try.underlying37
    obtain ⟨x0, y0, e0, h0, h⟩ := h
    obtain ⟨x1, y1, e1, h1, h⟩ := h
    obtain ⟨v0, k0, q0⟩ := h0.string Try.underlying9
    obtain ⟨v1, k1, q1⟩ := h1.string Try.underlying9
    have h : y1 = [] := h
    subst q0 q1
    subst h
    subst e1
    subst e0
    exact ⟨⟨v0, v1⟩, ⟨k0, k1, trivial⟩, rfl⟩
theorem GFile_typed {n : Nat} (es : List (List AV)) (h : ∀ x ∈ es, TypedC Try.prog (n + 2) 37 x) : ∃ l : List Sh.GFile, es = l.map cGFile ∧ ∀ o ∈ l, o.path.length ≤ maxLen ∧ o.text.length ≤ maxLen ∧ True :=
  typed_list cGFile (fun o => o.path.length ≤ maxLen ∧ o.text.length ≤ maxLen ∧ True) (fun x h => GFile_of h) es h
end Go.Proofs.Ytdflfbolaicliaa
