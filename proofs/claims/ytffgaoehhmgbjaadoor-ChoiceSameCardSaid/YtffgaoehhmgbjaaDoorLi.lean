/-
  Functions of the library in the calculus. Printed by a tool.
-/
import Derived.Test.YtffgaoehhmgbjaaDoorBu
import Derived.Test.YtffgaoehhmgbjaaDoorSr
import Derived.Test.YtffgaoehhmgbjaaDoorZs
import Derived.Test.YtffgaoehhmgbjaaDoorShelf
set_option linter.unusedVariables false
namespace Go.Proofs.YtffgaoehhmgbjaaDoor
open Go Go.Vc Go.Sh
/-- the package-level variables that are read -/
structure Glob (H : Heap) : Prop where
  i : GlobI 1 H
  signs : H 0 = some (.ro (Sh.signs.map fun l => Value.string ⟨⟨l⟩⟩))
theorem Glob.le {H H' : Heap} (h : Glob H) (hl : H.le H') : Glob H' := ⟨h.i.le hl, hl _ _ h.signs⟩
theorem Glob.held {H H0 : Heap} {g t : Nat} {cs : List AV} (h : Glob H) (hH : Holds H0 [.cell g t cs] H) : Glob H0 := ⟨h.i.held hH, ro_held hH h.signs⟩
theorem Glob.up {H H0 : Heap} {rs : List Res} (h : Glob H0) (hH : Holds H0 rs H) : Glob H := h.le hH.le
theorem Glob.ro {H : Heap} (h : Glob H) : Glob H.ro := ⟨h.i.ro, Heap.ro_get h.signs⟩
theorem l_HasPrefix (s p : List UInt8) {H : Heap} : TCall Tryd.prog 60 [sA s, sA p] H (fun v H' => v = bA (Lib.hasPrefix s p) ∧ H' = H) noE :=
  tcall_lit0 (us := [.string ⟨⟨s⟩⟩, .string ⟨⟨p⟩⟩]) (u := .bool (Lib.hasPrefix s p)) fun w hw => Tryd.strings_HasPrefix ⟨⟨s⟩⟩ ⟨⟨p⟩⟩ w
theorem l_IndexByte (s : List UInt8) (c : UInt8) {H : Heap} : TCall Tryd.prog 48 [sA s, u8A c] H (fun v H' => v = iA (Lib.indexByte s c) ∧ H' = H) noE :=
  tcall_lit0 (us := [.string ⟨⟨s⟩⟩, .int .u8 c.toNat]) (u := .int .i64 (Lib.indexByte s c)) fun w hw => by
    have := Tryd.strings_IndexByte ⟨⟨s⟩⟩ (c.toNat : Int) w
    simpa using this
theorem l_Index (s p : List UInt8) {H : Heap} (hG : GlobI 1 H) (h : s.length < 4294967281) : TCall Tryd.prog 49 [sA s, sA p] H (fun v H' => v = iA (Lib.index s p) ∧ H' = H) noE := by
  obtain ⟨m, hm⟩ := hG
  exact tcall_lit0 (us := [.string ⟨⟨s⟩⟩, .string ⟨⟨p⟩⟩]) (u := .int .i64 (Lib.index s p)) fun w hw => Tryd.strings_Index ⟨⟨s⟩⟩ ⟨⟨p⟩⟩ m w h (hw.cell0 hm)
end Go.Proofs.YtffgaoehhmgbjaaDoor
