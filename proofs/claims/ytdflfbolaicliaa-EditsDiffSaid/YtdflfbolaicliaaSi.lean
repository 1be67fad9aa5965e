/-
  slices.Sort and slices.Compact of numbers that are owned, by the library's contracts.
-/
import Derived.Test.YtdflfbolaicliaaSf
set_option linter.unusedVariables false
set_option linter.unusedSimpArgs false
namespace Go.Vc
open Go Go.Sh Go.Proofs
theorem int_lit (l : List Int) : (l.map cI).flatten = (l.map (Value.int .i64)).map AV.lit := by
  induction l with
  | nil => rfl
  | cons x l ih => simp only [List.map_cons, List.flatten_cons, ih]; rfl
theorem tcall_sortI {g c t : Nat} {l : List Int} {H : Heap} (hg : H g = some (.row t 1 (l.map cI) c)) (hsz : l.length < 4611686018427387904) :
    TCall Try.prog 34 [.own l.length (some (g, c))] H (fun v H' => v = .tup [] ∧ H' = H.set g (.row t 1 ((sortI l).map cI) c)) noE := by
  intro us w hv hh
  obtain ⟨u, us', rfl, h1, h2⟩ := hv.cons_inv
  obtain rfl := h2.nil_inv
  obtain rfl := h1.buf_inv
  obtain ⟨cur, b1, b2, b3, b4, b5, b6⟩ := hh g _ hg
  rw [List.length_map] at b3 b6
  rw [int_lit, Nat.mul_one] at b6
  have htk : cur.toList.take l.length = l.map (Value.int .i64) := b6.lits
  have hH := holds_of_blockI b1 htk
  have hlt := (Array.getElem?_eq_some_iff.1 b1).1
  have hc := AnyM.slices_Sort_int Try.sortInt g 0 c l w hH hlt hsz
  change Calls Try.prog 34 _ _ _ at hc
  refine hc.mono ?_
  rintro e w' ⟨rfl, n, os, hw'⟩
  have hl := sortI_len l
  have hw' : w' = Go.Sort.grow (Go.Sort.putRow (Value.int .i64) (Go.Sort.ahead w n) g 0 (sortI l).toArray) os := hw'
  subst hw'
  obtain ⟨q1, q2, q3, q4, q5⟩ := grownBy_sortedI (w := w) (g := g) (n := n) (os := os) (sortI l).toArray
  have hat := heap_sortedI (w := w) (n := n) (os := os) (sortI l).toArray b1
  have hdm : (H.set g (.row t 1 ((sortI l).map cI) c)).dom = H.dom := row_dom hg rfl rfl
  have ev : Evol H w (H.set g (.row t 1 ((sortI l).map cI) c)) (Go.Sort.grow (Go.Sort.putRow (Value.int .i64) (Go.Sort.ahead w n) g 0 (sortI l).toArray) os) :=
    ⟨q1, q2, q3, q4, fun k hk hn => q5 k hk (fun e => by injection e with e; subst e; exact hn ⟨_, hg, rfl⟩), fun k hk => .inl (by rw [hdm] at hk; exact hk)⟩
  refine ⟨_, ev, fun k x hx => ?_, .tup [], .tup [] rfl (fun i x u hx hu => by simp at hx), rfl, rfl⟩
  by_cases hk : k = g
  · subst hk
    rw [Heap.set_same] at hx
    injection hx with hx
    subst hx
    refine ⟨_, hat, by simp [Go.Sort.putCells, b2], by rw [List.length_map, hl]; exact b3, b4, fun e he => by obtain ⟨q, _, rfl⟩ := List.mem_map.1 he; rfl, ?_⟩
    rw [int_lit, List.length_map, Nat.mul_one, take_putCellsI cur (sortI l) (by omega)]
    exact VRs.map_lit _
  · rw [Heap.set_ne _ _ hk] at hx
    exact (hh k x hx).mono ev.size ev.hk (q5 k (hh k x hx).lt (fun e => by injection e with e; exact hk e))
theorem tcall_sortI_nil {H : Heap} : TCall Try.prog 34 [.own 0 none] H (fun v H' => v = .tup [] ∧ H' = H) noE := by
  intro us w hv hh
  obtain ⟨u, us', rfl, h1, h2⟩ := hv.cons_inv
  obtain rfl := h2.nil_inv
  obtain ⟨_, rfl⟩ := h1.nil_inv
  have hc := AnyM.slices_Sort_int_none Try.sortInt none 0 w
  change Calls Try.prog 34 _ _ _ at hc
  refine hc.mono ?_
  rintro e w' ⟨rfl, rfl⟩
  exact ⟨H, .refl _ _, hh, .tup [], .tup [] rfl (fun i x u hx hu => by simp at hx), rfl, rfl⟩
theorem w_sortI {t : Nat} {l : List Int} {H1 H : Heap} {p : Option (Nat × Nat)} (hsz : l.length < 4611686018427387904) (hH : Holds H1 [.own t 1 p (l.map cI)] H) : TCall Try.prog 34 [.own (l.map cI).length p] H (fun v H' => v = .tup [] ∧ Holds H1 [.own t 1 p ((sortI l).map cI)] H') noE := by
  rcases Own.inv hH.one_inv with ⟨rfl, e, rfl⟩ | ⟨g, c, rfl, hg, rfl⟩
  · have e0 : l = [] := by simpa using e
    subst e0
    refine tcall_sortI_nil.mono ?_ (fun _ _ h => h)
    rintro v H' ⟨rfl, rfl⟩
    have e2 : sortI [] = [] := List.eq_nil_of_length_eq_zero (sortI_len [])
    exact ⟨rfl, _, rfl, by rw [e2]; exact Own.nil rfl⟩
  · rw [List.length_map]
    refine (tcall_sortI (Heap.set_same _ _ _) hsz).mono ?_ (fun _ _ h => h)
    rintro v H' ⟨rfl, rfl⟩
    rw [Heap.set_set]
    exact ⟨rfl, _, rfl, Own.row g c hg rfl⟩
theorem tcall_compI {g c t : Nat} {l : List Int} {H : Heap} (hg : H g = some (.row t 1 (l.map cI) c)) (hsz : l.length ≤ 9223372036854775807) :
    TCall Try.prog 35 [.own l.length (some (g, c))] H (fun v H' => v = .own (compI l).length (some (g, c)) ∧ H' = H.set g (.row t 1 ((compI l).map cI) c)) noE := by
  intro us w hv hh
  obtain ⟨u, us', rfl, h1, h2⟩ := hv.cons_inv
  obtain rfl := h2.nil_inv
  obtain rfl := h1.buf_inv
  obtain ⟨cur, b1, b2, b3, b4, b5, b6⟩ := hh g _ hg
  rw [List.length_map] at b3 b6
  rw [int_lit, Nat.mul_one] at b6
  have htk : cur.toList.take l.length = l.map (Value.int .i64) := b6.lits
  have hH := holds_of_blockI b1 htk
  have hlt := (Array.getElem?_eq_some_iff.1 b1).1
  have hc := AnyG.slices_Compact_int Try.compInt g 0 c l w hH hsz b3
  change Calls Try.prog 35 _ _ _ at hc
  refine hc.mono ?_
  rintro e w' ⟨rfl, n, hw'⟩
  have hle : (compI l).length ≤ l.length := by unfold compI Lib.compact Lib.compactUpTo; rw [List.length_map]; exact Nat.le_trans (List.length_filter_le _ _) (by simp)
  generalize hd : compI l ++ List.replicate (l.length - (compI l).length) 0 = d
  have hdl : d.length = l.length := by rw [← hd]; simp; omega
  have hw' : w' = Go.Sort.grow (Go.Sort.putRow (Value.int .i64) (Go.Sort.ahead w n) g 0 d.toArray) #[] := by rw [hw', ← hd, Go.Sort.grow_empty]; rfl
  subst hw'
  obtain ⟨q1, q2, q3, q4, q5⟩ := grownBy_sortedI (w := w) (g := g) (n := n) (os := #[]) d.toArray
  have hat := heap_sortedI (w := w) (n := n) (os := #[]) d.toArray b1
  have hdm : (H.set g (.row t 1 ((compI l).map cI) c)).dom = H.dom := row_dom hg rfl rfl
  have ev : Evol H w (H.set g (.row t 1 ((compI l).map cI) c)) (Go.Sort.grow (Go.Sort.putRow (Value.int .i64) (Go.Sort.ahead w n) g 0 d.toArray) #[]) :=
    ⟨q1, q2, q3, q4, fun k hk hn => q5 k hk (fun e => by injection e with e; subst e; exact hn ⟨_, hg, rfl⟩), fun k hk => .inl (by rw [hdm] at hk; exact hk)⟩
  refine ⟨_, ev, fun k x hx => ?_, .own (compI l).length (some (g, c)), .buf _ _ _, rfl, rfl⟩
  by_cases hk : k = g
  · subst hk
    rw [Heap.set_same] at hx
    injection hx with hx
    subst hx
    refine ⟨_, hat, by simp [Go.Sort.putCells, b2], by rw [List.length_map]; omega, b4, fun e he => by obtain ⟨q, _, rfl⟩ := List.mem_map.1 he; rfl, ?_⟩
    have h7 : (Go.Sort.putCells (Value.int .i64) 0 d.toArray cur).toList.take (compI l).length = (compI l).map (Value.int .i64) := by
      have h8 := take_putCellsI cur d (by omega)
      have h9 := congrArg (List.take (compI l).length) h8
      rw [List.take_take, Nat.min_eq_left (by omega), ← List.map_take, ← hd, List.take_left'] at h9
      · rw [← hd]; exact h9
      · rfl
    rw [int_lit, List.length_map, Nat.mul_one, h7]
    exact VRs.map_lit _
  · rw [Heap.set_ne _ _ hk] at hx
    exact (hh k x hx).mono ev.size ev.hk (q5 k (hh k x hx).lt (fun e => by injection e with e; exact hk e))
theorem tcall_compI_nil {H : Heap} : TCall Try.prog 35 [.own 0 none] H (fun v H' => v = .own 0 none ∧ H' = H) noE := by
  intro us w hv hh
  obtain ⟨u, us', rfl, h1, h2⟩ := hv.cons_inv
  obtain rfl := h2.nil_inv
  obtain ⟨_, rfl⟩ := h1.nil_inv
  have hc := AnyG.slices_Compact_int_empty Try.compInt none 0 w
  change Calls Try.prog 35 _ _ _ at hc
  refine hc.mono ?_
  rintro e w' ⟨rfl, rfl⟩
  exact ⟨H, .refl _ _, hh, _, h1, rfl, rfl⟩
theorem compI_nil : compI [] = [] := rfl
theorem w_compI {t : Nat} {l : List Int} {H1 H : Heap} {p : Option (Nat × Nat)} (hsz : l.length ≤ 9223372036854775807) (hH : Holds H1 [.own t 1 p (l.map cI)] H) : TCall Try.prog 35 [.own (l.map cI).length p] H (fun v H' => v = .own ((compI l).map cI).length p ∧ Holds H1 [.own t 1 p ((compI l).map cI)] H') noE := by
  rcases Own.inv hH.one_inv with ⟨rfl, e, rfl⟩ | ⟨g, c, rfl, hg, rfl⟩
  · have e0 : l = [] := by simpa using e
    subst e0
    refine tcall_compI_nil.mono ?_ (fun _ _ h => h)
    rintro v H' ⟨rfl, rfl⟩
    exact ⟨rfl, _, rfl, Own.nil rfl⟩
  · rw [List.length_map]
    refine (tcall_compI (Heap.set_same _ _ _) hsz).mono ?_ (fun _ _ h => h)
    rintro v H' ⟨rfl, rfl⟩
    rw [Heap.set_set]
    exact ⟨by rw [List.length_map], _, rfl, Own.row g c hg rfl⟩
end Go.Vc
