/-
  Functions of the library in the calculus. Printed by a tool.
-/
import Derived.Test.YtogbccggnjidpaaBu
import Derived.Test.YtogbccggnjidpaaSr
import Derived.Test.YtogbccggnjidpaaShelf
set_option linter.unusedVariables false
namespace Go.Proofs.Ytogbccggnjidpaa
open Go Go.Vc Go.Sh
abbrev Glob (H : Heap) : Prop := GlobI 0 H
theorem l_HasPrefix (s p : List UInt8) {H : Heap} : TCall Try.prog 26 [sA s, sA p] H (fun v H' => v = bA (Lib.hasPrefix s p) ∧ H' = H) noE :=
  tcall_lit0 (us := [.string ⟨⟨s⟩⟩, .string ⟨⟨p⟩⟩]) (u := .bool (Lib.hasPrefix s p)) fun w hw => Try.strings_HasPrefix ⟨⟨s⟩⟩ ⟨⟨p⟩⟩ w
theorem l_Index (s p : List UInt8) {H : Heap} (hG : GlobI 0 H) (h : s.length < 4294967281) : TCall Try.prog 29 [sA s, sA p] H (fun v H' => v = iA (Lib.index s p) ∧ H' = H) noE := by
  obtain ⟨m, hm⟩ := hG
  exact tcall_lit0 (us := [.string ⟨⟨s⟩⟩, .string ⟨⟨p⟩⟩]) (u := .int .i64 (Lib.index s p)) fun w hw => Try.strings_Index ⟨⟨s⟩⟩ ⟨⟨p⟩⟩ m w h (hw.cell0 hm)
theorem l_Count (s p : List UInt8) {H : Heap} (hG : GlobI 0 H) (h : s.length < 4294967281 ∧ 2 ≤ p.length) : TCall Try.prog 20 [sA s, sA p] H (fun v H' => v = iA (Lib.count s p : Nat) ∧ H' = H) noE := by
  obtain ⟨m, hm⟩ := hG
  exact tcall_lit0 (us := [.string ⟨⟨s⟩⟩, .string ⟨⟨p⟩⟩]) (u := .int .i64 (Lib.count s p : Nat)) fun w hw => Try.strings_Count ⟨⟨s⟩⟩ ⟨⟨p⟩⟩ m w h.1 (hw.cell0 hm) h.2
theorem l_Repeat (s : List UInt8) (c : Int) {H : Heap} (h : 0 ≤ c ∧ c ≤ 9223372036854775807 ∧ s.length * c ≤ 140737488355328) : TCall Try.prog 22 [sA s, iA c] H (fun v H' => v = sA (Lib.repeatL s c.toNat) ∧ H' = H) noE := by
  obtain ⟨h0, h1, h2⟩ := h
  have hn : ((c.toNat : Nat) : Int) = c := Int.toNat_of_nonneg h0
  have := tcall_lit (P := Try.prog) (f := 22) (H := H) (us := [.string ⟨⟨s⟩⟩, .int .i64 (c.toNat : Nat)]) (u := .string ⟨⟨Lib.repeatL s c.toNat⟩⟩) fun w hw => Try.strings_Repeat ⟨⟨s⟩⟩ c.toNat w (by omega) (by
    have h3 : ((s.length * c.toNat : Nat) : Int) ≤ 140737488355328 := by rw [Int.natCast_mul, hn]; exact h2
    have h4 : s.length * c.toNat ≤ 140737488355328 := by omega
    exact h4)
  rw [hn] at this
  exact this
end Go.Proofs.Ytogbccggnjidpaa
