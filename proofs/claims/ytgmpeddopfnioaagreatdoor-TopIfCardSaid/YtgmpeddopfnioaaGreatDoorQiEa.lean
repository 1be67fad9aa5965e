/-
  Part of the proof of If.
-/
import Derived.Test.YtgmpeddopfnioaaGreatDoorQiAs
import Derived.Test.YtgmpeddopfnioaaGreatDoorQiTyzx
import Derived.Test.YtgmpeddopfnioaaGreatDoorQiLi
import Derived.Test.YtgmpeddopfnioaaGreatDoorQiRu
import Derived.OneCell

set_option linter.unusedVariables false
set_option linter.unusedSimpArgs false
namespace Go.Proofs.YtgmpeddopfnioaaGreatDoor
open Go Go.Vc Go.Sh
theorem w_errAs {H0 H : Heap} (hG : Glob H0) {g : Nat} (e : Option GFault) (hH : Holds H0 [.cell g 70 [ptrA none]] H) : TCall Tryz.prog 26 [errA e, .ifc 75 (.lit (.pointer (some ⟨g, 0, none⟩)))] H (fun v H' => v = bA e.isSome ∧ Holds H0 [.cell g 70 [ptrA e]] H') noE := by
 have hGe : GlobE H := (hG.up hH).e
 have hg := hH.cell (i := 0) rfl
 obtain ⟨H1, ⟨k1, kH⟩, k2, k3, k4⟩ := hH.at_ (i := 0) rfl
 intro us w hv hh
 obtain ⟨u1, us1, rfl, v1, v2⟩ := hv.cons_inv
 obtain ⟨u2, us2, rfl, v3, v4⟩ := v2.cons_inv
 obtain rfl := v4.nil_inv
 obtain ⟨u3, rfl, v5⟩ := v3.ifc_inv
 have e3 := v5.lit_inv
 subst e3
 cases e with
 | none =>
  have e1 := v1.lit_inv
  subst e1
  refine (as_nil _ w).mono fun ev w' ⟨he, hw⟩ => ?_
  subst he; subst hw
  exact ⟨H, .refl _ _, hh, _, .lit _, rfl, hH⟩
 | some f =>
  obtain ⟨u4, rfl, v6⟩ := v1.ifc_inv
  obtain ⟨a, us, rfl, w1, w2, w3⟩ := v6.rop_inv
  obtain ⟨vs, hb, hvs⟩ := hh g _ hg
  obtain ⟨c1, cs1, rfl, x1, x2⟩ := hvs.cons_inv
  obtain rfl := x2.nil_inv
  have e4 := x1.lit_inv
  subst e4
  obtain ⟨cur, ct, cz, y1, y2⟩ := hh 0 _ hGe
  have y3 := y2 0 _ rfl
  have hlt : g < w.heap.size := (Array.getElem?_eq_some_iff.1 hb).1
  refine (as_hit a ⟨g, 0, none⟩ (.pointer none) w (by simp only [World.cell?, y1]; exact y3) (by simp only [World.cell?, hb]; rfl) (by simp only [World.frozen?, hb]; rfl)).mono fun ev w' ⟨he, hw⟩ => ?_
  subst he
  generalize hq : (((w.alloc (.cells #[.pointer (some ⟨g, 0, none⟩)] 75)).alloc (.cells #[.pointer (some ⟨9, 75, none⟩), .pointer (some ⟨w.heap.size, 0, none⟩), .int .u64 150] 113)).alloc (.cells #[.pointer (some ⟨9, 75, none⟩), .pointer (some ⟨w.heap.size, 0, none⟩), .int .u64 150] 113)).alloc (.cells #[.pointer (some a)] 70) = w4 at hw
  have ev : Evol H w H w4 := by rw [← hq]; exact (((vY _).trans (vY _)).trans (vY _)).trans (vY _)
  have old : ∀ k, k < w.heap.size → w4.heap[k]? = w.heap[k]? := fun k hk => by
   rw [← hq]
   rw [heap_alloc_old _ _ (by simp; omega), heap_alloc_old _ _ (by simp; omega), heap_alloc_old _ _ (by simp; omega), heap_alloc_old _ _ hk]
  have hh4 : HeapR w4 H := hh.evolN ev fun k o ho => old k (hh k o ho).lt
  have hb4 : w4.heap[g]? = some (.cells #[Value.pointer none] 70 (0, 0)) := by rw [old g hlt]; exact hb
  have hd : H.dom g := ⟨_, hg, rfl⟩
  have oth : ∀ k, k ≠ g → w'.heap[k]? = w4.heap[k]? := fun k hk => by rw [hw]; exact RowKit.Below.heap_setCell w4 ⟨g, 0, none⟩ _ k hk
  have ev2 : Evol H w4 (H.set g (.cells 70 [ptrA (some f)])) w' := Evol.write _ hd (by rw [hw]; rfl) (by rw [hw]; rfl) (by rw [hw]; rfl) (by rw [hw]; simp [World.setCell]) oth
  have hset := k4 (.cell g 70 [ptrA (some f)]) (H1.set g (.cells 70 [ptrA (some f)])) ⟨k1, rfl⟩
  have eH : H.set g (.cells 70 [ptrA (some f)]) = H1.set g (.cells 70 [ptrA (some f)]) := by rw [kH, vT]
  refine ⟨H.set g (.cells 70 [ptrA (some f)]), ev.trans ev2, vU _ hh4 ev2 oth ⟨[.pointer (some a)], by rw [hw]; exact one_setCell hb4, ?_⟩, _, .lit _, rfl, by rw [eH]; exact hset⟩
  exact .cons ((v6.evol ev).evol ev2) .nil
end Go.Proofs.YtgmpeddopfnioaaGreatDoor
