/-
  Functions of the library in the calculus. Printed by a tool.
-/
import Derived.Test.YtghnfeflknfclaaDoorBu
import Derived.Test.YtghnfeflknfclaaDoorSr
import Derived.Test.YtghnfeflknfclaaDoorZs
import Derived.Test.YtghnfeflknfclaaDoorShelf
set_option linter.unusedVariables false
namespace Go.Proofs.YtghnfeflknfclaaDoor
open Go Go.Vc Go.Sh
/-- the package-level variables that are read -/
structure Glob (H : Heap) : Prop where
  i : GlobI 2 H
  signs : H 1 = some (.ro (Sh.signs.map fun l => Value.string ⟨⟨l⟩⟩))
theorem Glob.le {H H' : Heap} (h : Glob H) (hl : H.le H') : Glob H' := ⟨h.i.le hl, hl _ _ h.signs⟩
theorem Glob.held {H H0 : Heap} {g t : Nat} {cs : List AV} (h : Glob H) (hH : Holds H0 [.cell g t cs] H) : Glob H0 := ⟨h.i.held hH, ro_held hH h.signs⟩
theorem Glob.up {H H0 : Heap} {rs : List Res} (h : Glob H0) (hH : Holds H0 rs H) : Glob H := h.le hH.le
theorem Glob.ro {H : Heap} (h : Glob H) : Glob H.ro := ⟨h.i.ro, Heap.ro_get h.signs⟩
theorem l_Join (l : List (List UInt8)) (sep : List UInt8) {H : Heap} {t : TypeId} {p : Option (Nat × Nat)} (hO : ∃ H1, Vc.Own H1 t 1 (List.map cS l) (List.map cS l).length p H) (h : l.length ≤ 140737488355328 ∧ (Lib.join l sep).length ≤ 140737488355328) : TCall Tryd.prog 66 [.own (List.map cS l).length p, sA sep] H (fun v H' => v = sA (Lib.join l sep) ∧ H' = H) noE := by
  obtain ⟨H1, hO⟩ := hO
  intro us w hv hh
  obtain ⟨u, us', rfl, h1, h2⟩ := hv.cons_inv
  obtain ⟨u2, us', rfl, h3, h2⟩ := h2.cons_inv
  obtain rfl := h2.nil_inv
  have h3 := h3.lit_inv
  subst h3
  rcases Own.inv hO with ⟨rfl, e0, rfl⟩ | ⟨g, c, rfl, hg, rfl⟩
  · obtain ⟨_, rfl⟩ := h1.nil_inv
    have e1 : l = [] := by simpa using e0
    subst e1
    refine (Tryd.strings_Join_none none 0 ⟨⟨sep⟩⟩ w).mono fun e w' ⟨he, hb⟩ => ?_
    subst he; subst hb
    exact ⟨_, .refl _ _, hh, _, .lit _, rfl, rfl⟩
  · obtain rfl := h1.buf_inv
    obtain ⟨cur, b1, b2, b3, b4, b5, b6⟩ := hh g _ (Heap.set_same _ _ _)
    have fl : ∀ l : List (List UInt8), (l.map cS).flatten = (l.map fun s => Value.string ⟨⟨s⟩⟩).map AV.lit := by
      intro l
      induction l with
      | nil => rfl
      | cons x l ih => simp only [List.map_cons, List.flatten_cons, ih]; rfl
    rw [fl, Nat.mul_one] at b6
    have htk := b6.lits
    rw [List.length_map] at htk b3
    have hc := Tryd.strings_Join g 0 c (l.map fun s => ⟨⟨s⟩⟩) ⟨⟨sep⟩⟩ w (fun j x hx => by
      rw [Nat.zero_add, cell_of_row w g j _ _ _ b1]
      rw [List.getElem?_map] at hx
      obtain ⟨s, hs, rfl⟩ := Option.map_eq_some_iff.1 hx
      have h4 : (cur.toList.take l.length)[j]? = some (Value.string ⟨⟨s⟩⟩) := by rw [htk, List.getElem?_map, hs]; rfl
      rw [List.getElem?_take] at h4
      split at h4
      · simpa using h4
      · cases h4) (Array.getElem?_eq_some_iff.1 b1).1 (by simpa using h.1) (by simpa using b3) (by simpa [List.map_map, Function.comp_def] using h.2)
    rw [List.length_map] at hc ⊢
    refine hc.mono fun e w' ⟨he, hb⟩ => ?_
    subst he
    refine ⟨_, Evol.of_below hb, hh.below hb, _, .lit _, ?_, rfl⟩
    simp [List.map_map, Function.comp_def]
theorem l_HasPrefix (s p : List UInt8) {H : Heap} : TCall Tryd.prog 94 [sA s, sA p] H (fun v H' => v = bA (Lib.hasPrefix s p) ∧ H' = H) noE :=
  tcall_lit0 (us := [.string ⟨⟨s⟩⟩, .string ⟨⟨p⟩⟩]) (u := .bool (Lib.hasPrefix s p)) fun w hw => Tryd.strings_HasPrefix ⟨⟨s⟩⟩ ⟨⟨p⟩⟩ w
theorem l_IndexByte (s : List UInt8) (c : UInt8) {H : Heap} : TCall Tryd.prog 75 [sA s, u8A c] H (fun v H' => v = iA (Lib.indexByte s c) ∧ H' = H) noE :=
  tcall_lit0 (us := [.string ⟨⟨s⟩⟩, .int .u8 c.toNat]) (u := .int .i64 (Lib.indexByte s c)) fun w hw => by
    have := Tryd.strings_IndexByte ⟨⟨s⟩⟩ (c.toNat : Int) w
    simpa using this
theorem l_Index (s p : List UInt8) {H : Heap} (hG : GlobI 2 H) (h : s.length < 4294967281) : TCall Tryd.prog 76 [sA s, sA p] H (fun v H' => v = iA (Lib.index s p) ∧ H' = H) noE := by
  obtain ⟨m, hm⟩ := hG
  exact tcall_lit0 (us := [.string ⟨⟨s⟩⟩, .string ⟨⟨p⟩⟩]) (u := .int .i64 (Lib.index s p)) fun w hw => Tryd.strings_Index ⟨⟨s⟩⟩ ⟨⟨p⟩⟩ m w h (hw.cell0 hm)
end Go.Proofs.YtghnfeflknfclaaDoor
