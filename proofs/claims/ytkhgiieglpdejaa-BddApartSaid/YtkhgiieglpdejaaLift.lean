/-
  The arguments of the laws of layer 1, read by their types.
-/
import Derived.Test.YtkhgiieglpdejaaRows
import Derived.Test.YtkhgiieglpdejaaFacts
import Derived.Test.YtkhgiieglpdejaaVo
import Derived.ProofKit
set_option linter.unusedVariables false
set_option linter.unusedSimpArgs false
namespace Go.Proofs.Ytkhgiieglpdejaa
open Go Go.ChangeShapes Go.WideShapes Go.ChangeAt Go.RowKit Go.Vc Go.Vc.Bdd

theorem Try.own : ownKnob Try.prog.godebug = none := by kernel_rfl
theorem Try.laidOut : laidOutB Try.prog = true := by kernel_rfl

theorem op_typed {n : Nat} (x : List AV) (h : TypedC Try.prog (n + 1 + 1) 56 x) : ∃ o : Op6, o.Ok ∧ x = encO o := by
  obtain ⟨a0, b0, rfl, t0, a1, b1, rfl, t1, a2, b2, rfl, t2, a3, b3, rfl, t3, a4, b4, rfl, t4, a5, b5, rfl, t5, h6⟩ := h.struct Try.underlying56
  obtain ⟨i0, w0, rfl⟩ := t0.int Try.underlying3
  obtain ⟨i1, w1, rfl⟩ := t1.int Try.underlying3
  obtain ⟨i2, w2, rfl⟩ := t2.int Try.underlying3
  obtain ⟨i3, w3, rfl⟩ := t3.int Try.underlying3
  obtain ⟨i4, w4, rfl⟩ := t4.int Try.underlying3
  obtain ⟨c, rfl⟩ := t5.bool Try.underlying4
  cases h6
  exact ⟨⟨i0, i1, i2, i3, i4, c⟩, ⟨w1, w2, w3⟩, rfl⟩
theorem args_ops {n : Nat} {ts : List TypeId} {xs : List AV} (h : ArgsC Try.prog (n + 1 + 1 + 1) (22 :: ts) xs) : ∃ (l : List Op6) (r : List AV), (∀ o ∈ l, o.Ok) ∧ l.length ≤ 9223372036854775807 ∧ xs = .rows 6 (l.map encO) :: r ∧ ArgsC Try.prog (n + 1 + 1 + 1) ts r := by
  obtain ⟨es, r, he, rfl, hx, h2⟩ := h.slice Try.underlying22
  obtain ⟨l, rfl, hl⟩ := typed_list encO Op6.Ok op_typed es hx
  exact ⟨l, r, hl, by simpa [maxLen] using he, rfl, h2⟩
end Go.Proofs.Ytkhgiieglpdejaa
