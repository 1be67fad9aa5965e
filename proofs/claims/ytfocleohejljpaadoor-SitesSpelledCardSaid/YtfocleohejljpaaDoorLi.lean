/-
  Functions of the library in the calculus. Printed by a tool.
-/
import Derived.Test.YtfocleohejljpaaDoorBu
import Derived.Test.YtfocleohejljpaaDoorSr
import Derived.Test.YtfocleohejljpaaDoorZs
import Derived.Test.YtfocleohejljpaaDoorShelf
set_option linter.unusedVariables false
namespace Go.Proofs.YtfocleohejljpaaDoor
open Go Go.Vc Go.Sh
/-- the package-level variables that are read -/
structure Glob (H : Heap) : Prop where
  i : GlobI 2 H
  keywords : H 0 = some (.ro (Sh.keywords.map fun l => Value.string ⟨⟨l⟩⟩))
  signs : H 1 = some (.ro (Sh.signs.map fun l => Value.string ⟨⟨l⟩⟩))
  words : H 3 = some (.ro (Sh.words.map fun l => Value.string ⟨⟨l⟩⟩))
theorem Glob.le {H H' : Heap} (h : Glob H) (hl : H.le H') : Glob H' := ⟨h.i.le hl, hl _ _ h.keywords, hl _ _ h.signs, hl _ _ h.words⟩
theorem Glob.held {H H0 : Heap} {g t : Nat} {cs : List AV} (h : Glob H) (hH : Holds H0 [.cell g t cs] H) : Glob H0 := ⟨h.i.held hH, ro_held hH h.keywords, ro_held hH h.signs, ro_held hH h.words⟩
theorem Glob.up {H H0 : Heap} {rs : List Res} (h : Glob H0) (hH : Holds H0 rs H) : Glob H := h.le hH.le
theorem l_HasPrefix (s p : List UInt8) {H : Heap} : TCall Tryd.prog 94 [sA s, sA p] H (fun v H' => v = bA (Lib.hasPrefix s p) ∧ H' = H) noE :=
  tcall_lit0 (us := [.string ⟨⟨s⟩⟩, .string ⟨⟨p⟩⟩]) (u := .bool (Lib.hasPrefix s p)) fun w hw => Tryd.strings_HasPrefix ⟨⟨s⟩⟩ ⟨⟨p⟩⟩ w
theorem l_IndexByte (s : List UInt8) (c : UInt8) {H : Heap} : TCall Tryd.prog 75 [sA s, u8A c] H (fun v H' => v = iA (Lib.indexByte s c) ∧ H' = H) noE :=
  tcall_lit0 (us := [.string ⟨⟨s⟩⟩, .int .u8 c.toNat]) (u := .int .i64 (Lib.indexByte s c)) fun w hw => by
    have := Tryd.strings_IndexByte ⟨⟨s⟩⟩ (c.toNat : Int) w
    simpa using this
theorem l_Index (s p : List UInt8) {H : Heap} (hG : GlobI 2 H) (h : s.length < 4294967281) : TCall Tryd.prog 76 [sA s, sA p] H (fun v H' => v = iA (Lib.index s p) ∧ H' = H) noE := by
  obtain ⟨m, hm⟩ := hG
  exact tcall_lit0 (us := [.string ⟨⟨s⟩⟩, .string ⟨⟨p⟩⟩]) (u := .int .i64 (Lib.index s p)) fun w hw => Tryd.strings_Index ⟨⟨s⟩⟩ ⟨⟨p⟩⟩ m w h (hw.cell0 hm)
theorem l_Count (s p : List UInt8) {H : Heap} (hG : GlobI 2 H) (h : s.length < 4294967281 ∧ 2 ≤ p.length) : TCall Tryd.prog 107 [sA s, sA p] H (fun v H' => v = iA (Lib.count s p : Nat) ∧ H' = H) noE := by
  obtain ⟨m, hm⟩ := hG
  exact tcall_lit0 (us := [.string ⟨⟨s⟩⟩, .string ⟨⟨p⟩⟩]) (u := .int .i64 (Lib.count s p : Nat)) fun w hw => Tryd.strings_Count ⟨⟨s⟩⟩ ⟨⟨p⟩⟩ m w h.1 (hw.cell0 hm) h.2
end Go.Proofs.YtfocleohejljpaaDoor
