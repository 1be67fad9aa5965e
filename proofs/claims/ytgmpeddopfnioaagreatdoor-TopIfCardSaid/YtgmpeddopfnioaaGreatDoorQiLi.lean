/-
  Part of the proof of If.
-/
import Derived.Test.YtgmpeddopfnioaaGreatDoorQiBu
import Derived.Test.YtgmpeddopfnioaaGreatDoorQiTyzx
import Derived.Test.YtgmpeddopfnioaaGreatDoorQiShx
import Derived.Test.YtgmpeddopfnioaaGreatDoorQiShelf

set_option linter.unusedVariables false
namespace Go.Proofs.YtgmpeddopfnioaaGreatDoor
open Go Go.Vc Go.Sh
theorem tcall_rows {P : Program} {f : FuncId} {args : List AV} {H : Heap} {t size : Nat} {es : List (List Value)} (hs : ∀ e ∈ es, e.length = size)
  (h : ∀ us w, VRs w H.dom args us → HeapR w H → Calls P f us.toArray w fun e w' => ∃ v, e = .returned v ∧ w'.ownsRow w.heap.size t size v es.length es.flatten ∧ RowKit.Below w.heap.size w w') :
  TCall P f args H (fun v H' => v = .rows size (es.map (·.map .lit)) ∧ H' = H) noE := fun us w hv hh => by
 refine (h us w hv hh).mono fun e w' ⟨v, he, hown, hb⟩ => ?_
 subst he
 refine ⟨H, Evol.of_below hb, hh.below hb, _, ?_, rfl, rfl⟩
 have hfl : (es.map (·.map AV.lit)).flatten = es.flatten.map AV.lit := by rw [List.map_flatten]
 rcases hown.2 with ⟨rfl, h0⟩ | ⟨g, cap, cur, rfl, hg, hc, hn, hcap, hsz, hx⟩
 ·have : es = [] := List.eq_nil_of_length_eq_zero h0
  subst this
  exact .rows0
 ·have key : VR w' H.dom (.rows size (es.map (·.map AV.lit))) (.slice (some ⟨g, 0, none⟩) (es.map (·.map AV.lit)).length cap) := by
   refine .rows es.flatten (fun e he => ?_) (by rw [hfl, List.length_map]) (fun k u hk => ?_) (fun k x u h1 h2 => ?_) (fun hne => ⟨(Array.getElem?_eq_some_iff.1 hc).1, fun ⟨o, ho, _⟩ => ?_⟩) (by rw [List.length_map]; exact hn)
   ·obtain ⟨q, hq, rfl⟩ := List.mem_map.1 he
    rw [List.length_map]; exact hs q hq
   ·rw [addr_add, Nat.zero_add, cell_of_row w' g k _ _ _ hc]
    rw [← hx, List.getElem?_take] at hk
    split at hk
    ·simpa using hk
    ·cases hk
   ·rw [hfl, List.getElem?_map, h2] at h1
    injection h1 with h1; subst h1
    exact .lit u
   ·have := (hh g o ho).lt; omega
  rwa [List.length_map] at key
def spTab : List Value := (List.range 256).map fun c => .int .u8 (if Lib.isSp (UInt8.ofNat c) then 1 else 0)
theorem spTab_at {c : Nat} (hc : c < 256) : spTab[c]? = some (.int .u8 (if Lib.isSp (UInt8.ofNat c) then 1 else 0)) := by unfold spTab; rw [List.getElem?_map, List.getElem?_range hc]; rfl
abbrev GlobF (H : Heap) : Prop := H 4 = some (.ro spTab)
abbrev GlobE (H : Heap) : Prop := H 0 = some (.ro [Value.iface 156 (.agg #[.pointer (some ⟨9, 73, none⟩)])])
structure Glob (H : Heap) : Prop where
 i : GlobI 2 H
 f : GlobF H
 e : GlobE H
 signs : H 1 = some (.ro (Sh.signs.map fun l => Value.string ⟨⟨l⟩⟩))
 words : H 3 = some (.ro (Sh.words.map fun l => Value.string ⟨⟨l⟩⟩))
theorem Glob.le {H H' : Heap} (h : Glob H) (hl : H.le H') : Glob H' := ⟨h.i.le hl, hl _ _ h.f, hl _ _ h.e, hl _ _ h.signs, hl _ _ h.words⟩
theorem Glob.held {H H0 : Heap} {g t : Nat} {cs : List AV} (h : Glob H) (hH : Holds H0 [.cell g t cs] H) : Glob H0 := ⟨h.i.held hH, ro_held hH h.f, ro_held hH h.e, ro_held hH h.signs, ro_held hH h.words⟩
theorem Glob.up {H H0 : Heap} {rs : List Res} (h : Glob H0) (hH : Holds H0 rs H) : Glob H := h.le hH.le
theorem Glob.ro {H : Heap} (h : Glob H) : Glob H.ro := ⟨h.i.ro, Heap.ro_get h.f, Heap.ro_get h.e, Heap.ro_get h.signs, Heap.ro_get h.words⟩
theorem l_HasPrefix (s p : List UInt8) {H : Heap} : TCall Tryz.prog 99 [sA s, sA p] H (fun v H' => v = bA (Lib.hasPrefix s p) ∧ H' = H) noE :=
 tcall_lit0 (us := [.string ⟨⟨s⟩⟩, .string ⟨⟨p⟩⟩]) (u := .bool (Lib.hasPrefix s p)) fun w hw => Tryz.strings_HasPrefix ⟨⟨s⟩⟩ ⟨⟨p⟩⟩ w
theorem l_IndexByte (s : List UInt8) (c : UInt8) {H : Heap} : TCall Tryz.prog 63 [sA s, u8A c] H (fun v H' => v = iA (Lib.indexByte s c) ∧ H' = H) noE :=
 tcall_lit0 (us := [.string ⟨⟨s⟩⟩, .int .u8 c.toNat]) (u := .int .i64 (Lib.indexByte s c)) fun w hw => by
  have := Tryz.strings_IndexByte ⟨⟨s⟩⟩ (c.toNat : Int) w
  simpa using this
theorem l_Index (s p : List UInt8) {H : Heap} (hG : GlobI 2 H) (h : s.length < 4294967281) : TCall Tryz.prog 64 [sA s, sA p] H (fun v H' => v = iA (Lib.index s p) ∧ H' = H) noE := by
 obtain ⟨m, hm⟩ := hG
 exact tcall_lit0 (us := [.string ⟨⟨s⟩⟩, .string ⟨⟨p⟩⟩]) (u := .int .i64 (Lib.index s p)) fun w hw => Tryz.strings_Index ⟨⟨s⟩⟩ ⟨⟨p⟩⟩ m w h (hw.cell0 hm)
theorem l_Fields (s : List UInt8) {H : Heap} (hT : GlobF H) (h : s.length < 4294967281 ∧ (∀ b ∈ s, b.toNat < 128) ∧ (Lib.fields s).length ≤ 1000000) : TCall Tryz.prog 124 [sA s] H (fun v H' => v = .rows 1 ((Lib.fields s).map cS) ∧ H' = H) noE := by
  have e1 : (Lib.fields s).map cS = ((Lib.fields s).map fun l => [Value.string ⟨l.toArray⟩]).map (·.map AV.lit) := by rw [List.map_map]; rfl
  rw [e1]
  refine tcall_rows (t := 9) (by simp) fun us w hv hh => ?_
  obtain ⟨u, us', rfl, h1, h2⟩ := hv.cons_inv
  obtain rfl := h2.nil_inv
  have h1 := h1.lit_inv
  subst h1
  refine (Go.Proofs.Any.strings_Fields_core Tryz.lays157 (by kernel_rfl) ⟨⟨s⟩⟩ w h.1 (fun j b hb => h.2.1 b (List.mem_of_getElem? hb)) (fun c hc => ?_)).mono fun e w' ⟨he, hw⟩ => ?_
  · obtain ⟨cur, t, z, b1, b2⟩ := hh 4 _ hT
    have b3 := b2 c _ (spTab_at hc)
    show w.cell? ⟨4, c, none⟩ = _
    simp only [World.cell?, b1]
    exact b3
  · subst he; subst hw
    have hm : (Lib.fields s).length ≤ maxLen := by have := h.2.2; simp only [maxLen]; omega
    have hfl : ∀ l : List (List UInt8), (l.map fun l => [Value.string ⟨l.toArray⟩]).flatten = l.map fun l => Value.string ⟨l.toArray⟩ := fun l => by
      induction l with
      | nil => rfl
      | cons x l ih => rw [List.map_cons, List.flatten_cons, ih]; rfl
    refine ⟨_, rfl, ⟨?_, .inr ⟨w.heap.size, (Lib.fields s).length, _, ?_, Nat.le_refl _, heap_alloc_new w _, ?_, hm, ?_, ?_⟩⟩, (RowKit.Below.refl _ _).alloc (Nat.le_refl _) _⟩
    · rw [hfl]; simp
    · rw [List.length_map]
    · rw [List.length_map]; exact Nat.le_refl _
    · simp
    · rw [hfl, List.length_map, Nat.mul_one]; exact (List.take_of_length_le (by simp))
theorem l_Mul64 (x y : Int) {H : Heap} (h : (0 ≤ x ∧ x < 18446744073709551616) ∧ 0 ≤ y ∧ y < 18446744073709551616) : TCall Tryz.prog 156 [.lit (.int .u64 x), .lit (.int .u64 y)] H (fun v H' => v = .tup [.lit (.int .u64 (Sh.mul64 x y).1), .lit (.int .u64 (Sh.mul64 x y).2)] ∧ H' = H) noE := by
 obtain ⟨m, rfl⟩ : ∃ m : Nat, x = m := ⟨x.toNat, by omega⟩
 obtain ⟨n, rfl⟩ : ∃ n : Nat, y = n := ⟨y.toNat, by omega⟩
 have := tcall_lit0 (P := Tryz.prog) (f := 156) (H := H) (us := [.int .u64 (m : Int), .int .u64 (n : Int)]) (u := .tuple #[.int .u64 ((m * n / 18446744073709551616 : Nat) : Int), .int .u64 ((m * n % 18446744073709551616 : Nat) : Int)]) fun w hw => Tryz.bits_Mul64 m n (by omega) (by omega) w
 refine TCall.sub (this.mono ?_ (fun _ _ h => h))
 rintro _ _ ⟨rfl, rfl⟩
 refine ⟨_, ?_, rfl, rfl⟩
 have e1 : ((m * n / 18446744073709551616 : Nat) : Int) = (Sh.mul64 m n).1 := by unfold Sh.mul64; simp
 have e2 : ((m * n % 18446744073709551616 : Nat) : Int) = (Sh.mul64 m n).2 := by unfold Sh.mul64; simp
 rw [e1, e2]
 exact fun w D u hu => by
  obtain rfl := hu.lit_inv
  exact .tup [_, _] rfl (fun k x u hx hu => by
   match k with
   | 0 => simp at hx hu; subst hx; subst hu; exact .lit _
   | 1 => simp at hx hu; subst hx; subst hu; exact .lit _
   | k + 2 => simp at hx)
end Go.Proofs.YtgmpeddopfnioaaGreatDoor
