/-
  Part of the proof of Strings.
-/
import Derived.Test.YtgmpeddopfnioaaGreatDoorQsBu
import Derived.Test.YtgmpeddopfnioaaGreatDoorQsTyzx
import Derived.Test.YtgmpeddopfnioaaGreatDoorQsShx
import Derived.Test.YtgmpeddopfnioaaGreatDoorQsShelf

set_option linter.unusedVariables false
namespace Go.Proofs.YtgmpeddopfnioaaGreatDoor
open Go Go.Vc Go.Sh
def spTab : List Value := (List.range 256).map fun c => .int .u8 (if Lib.isSp (UInt8.ofNat c) then 1 else 0)
abbrev GlobF (H : Heap) : Prop := H 4 = some (.ro spTab)
abbrev GlobE (H : Heap) : Prop := H 0 = some (.ro [Value.iface 156 (.agg #[.pointer (some ⟨9, 73, none⟩)])])
structure Glob (H : Heap) : Prop where
 i : GlobI 2 H
 f : GlobF H
 e : GlobE H
 signs : H 1 = some (.ro (Sh.signs.map fun l => Value.string ⟨⟨l⟩⟩))
 words : H 3 = some (.ro (Sh.words.map fun l => Value.string ⟨⟨l⟩⟩))
theorem Glob.le {H H' : Heap} (h : Glob H) (hl : H.le H') : Glob H' := ⟨h.i.le hl, hl _ _ h.f, hl _ _ h.e, hl _ _ h.signs, hl _ _ h.words⟩
theorem Glob.held {H H0 : Heap} {g t : Nat} {cs : List AV} (h : Glob H) (hH : Holds H0 [.cell g t cs] H) : Glob H0 := ⟨h.i.held hH, ro_held hH h.f, ro_held hH h.e, ro_held hH h.signs, ro_held hH h.words⟩
theorem Glob.up {H H0 : Heap} {rs : List Res} (h : Glob H0) (hH : Holds H0 rs H) : Glob H := h.le hH.le
theorem Glob.ro {H : Heap} (h : Glob H) : Glob H.ro := ⟨h.i.ro, Heap.ro_get h.f, Heap.ro_get h.e, Heap.ro_get h.signs, Heap.ro_get h.words⟩
theorem l_HasPrefix (s p : List UInt8) {H : Heap} : TCall Tryz.prog 99 [sA s, sA p] H (fun v H' => v = bA (Lib.hasPrefix s p) ∧ H' = H) noE :=
 tcall_lit0 (us := [.string ⟨⟨s⟩⟩, .string ⟨⟨p⟩⟩]) (u := .bool (Lib.hasPrefix s p)) fun w hw => Tryz.strings_HasPrefix ⟨⟨s⟩⟩ ⟨⟨p⟩⟩ w
theorem l_IndexByte (s : List UInt8) (c : UInt8) {H : Heap} : TCall Tryz.prog 63 [sA s, u8A c] H (fun v H' => v = iA (Lib.indexByte s c) ∧ H' = H) noE :=
 tcall_lit0 (us := [.string ⟨⟨s⟩⟩, .int .u8 c.toNat]) (u := .int .i64 (Lib.indexByte s c)) fun w hw => by
  have := Tryz.strings_IndexByte ⟨⟨s⟩⟩ (c.toNat : Int) w
  simpa using this
theorem l_Index (s p : List UInt8) {H : Heap} (hG : GlobI 2 H) (h : s.length < 4294967281) : TCall Tryz.prog 64 [sA s, sA p] H (fun v H' => v = iA (Lib.index s p) ∧ H' = H) noE := by
 obtain ⟨m, hm⟩ := hG
 exact tcall_lit0 (us := [.string ⟨⟨s⟩⟩, .string ⟨⟨p⟩⟩]) (u := .int .i64 (Lib.index s p)) fun w hw => Tryz.strings_Index ⟨⟨s⟩⟩ ⟨⟨p⟩⟩ m w h (hw.cell0 hm)
theorem l_ReplaceAll (s p q : List UInt8) {H : Heap} (hG : GlobI 2 H) (h : s.length < 4294967281 ∧ 1 ≤ p.length ∧ s.length + Lib.count s p * q.length ≤ 140737488355328) : TCall Tryz.prog 206 [sA s, sA p, sA q] H (fun v H' => v = sA (Lib.replaceAll s p q) ∧ H' = H) noE := by
 obtain ⟨m, hm⟩ := hG
 exact tcall_lit (us := [.string ⟨⟨s⟩⟩, .string ⟨⟨p⟩⟩, .string ⟨⟨q⟩⟩]) (u := .string ⟨⟨Lib.replaceAll s p q⟩⟩) fun w hw => Tryz.strings_ReplaceAll ⟨⟨s⟩⟩ ⟨⟨p⟩⟩ ⟨⟨q⟩⟩ m w h.1 (hw.cell0 hm) h.2.1 h.2.2
end Go.Proofs.YtgmpeddopfnioaaGreatDoor
