/-
  slices.SortFunc of edits that are owned, by the library's contract. Behind it: what is known of the order.
-/
import Derived.Test.YtdflfbolaicliaaOrd
import Derived.Test.YtdflfbolaicliaaPe
import Derived.Test.YtdflfbolaicliaaHo
import Derived.Test.YtdflfbolaicliaaEs
import Derived.Sort.OwnSortedInts
import Derived.Shelf.SlSortCmp.NoneTotal
set_option linter.unusedVariables false
set_option linter.unusedSimpArgs false
namespace Go.Vc
open Go Go.Sh Go.Proofs
theorem flat_at {α β : Type} (enc : α → List β) (k : Nat) (hk : ∀ x, (enc x).length = k) : ∀ (l : List α) (t : Nat), t < l.length * k → ∃ x, l[t / k]? = some x ∧ ((l.map enc).flatten)[t]? = (enc x)[t % k]?
  | [], t, h => by simp at h
  | y :: l, t, h => by
    have hk0 : 0 < k := by rcases Nat.eq_zero_or_pos k with e | e; subst e; simp at h; exact e
    by_cases hlt : t < k
    · refine ⟨y, by rw [Nat.div_eq_of_lt hlt]; rfl, ?_⟩
      rw [List.map_cons, List.flatten_cons, List.getElem?_append_left (by rw [hk]; exact hlt), Nat.mod_eq_of_lt hlt]
    · have h2 : t - k < l.length * k := by simp only [List.length_cons, Nat.add_mul, Nat.one_mul] at h; omega
      obtain ⟨x, h3, h4⟩ := flat_at enc k hk l (t - k) h2
      have e1 : t / k = (t - k) / k + 1 := by rw [Nat.div_eq, if_pos ⟨hk0, by omega⟩]
      refine ⟨x, by rw [e1]; simpa using h3, ?_⟩
      rw [List.map_cons, List.flatten_cons, List.getElem?_append_right (by rw [hk]; omega), hk, h4, ← Nat.mod_eq_sub_mod (by omega)]
theorem encE_len (x : GEdit) : (encE x).length = 4 := rfl
theorem flat_len (l : List GEdit) : ((l.map encE).flatten).length = l.length * 4 := by
  induction l with
  | nil => rfl
  | cons x l ih => simp only [List.map_cons, List.flatten_cons, List.length_append, ih, encE_len, List.length_cons]; omega
theorem flatK_list (l : List GEdit) : (Go.Sort.flatK encE 4 l.toArray).toList = (l.map encE).flatten := by
  apply List.ext_getElem?
  intro t
  by_cases h : t < l.length * 4
  · obtain ⟨x, h1, h2⟩ := flat_at encE 4 encE_len l t h
    rw [h2, Array.getElem?_toList]
    have h3 : (Go.Sort.flatK encE 4 l.toArray)[t]! = (encE l.toArray[t / 4]!)[t % 4]! := Go.Sort.get_flatK encE 4 l.toArray t (by simpa using h)
    have h4 : l.toArray[t / 4]! = x := by
      obtain ⟨hl, he⟩ := List.getElem?_eq_some_iff.1 h1
      rw [getElem!_pos l.toArray (t / 4) (by simpa using hl)]; simpa using he
    have hlt : t < (Go.Sort.flatK encE 4 l.toArray).size := by rw [Go.Sort.size_flatK]; simpa using h
    have hm : t % 4 < (encE x).length := by rw [encE_len]; exact Nat.mod_lt _ (by decide)
    rw [h4, getElem!_pos _ t hlt, getElem!_pos (encE x) (t % 4) hm] at h3
    rw [Array.getElem?_eq_getElem hlt, h3, List.getElem?_eq_getElem hm]
  · rw [List.getElem?_eq_none (l := (l.map encE).flatten) (by rw [flat_len]; omega), List.getElem?_eq_none (by rw [Array.length_toList, Go.Sort.size_flatK]; simpa using h)]
theorem encE_lit (l : List GEdit) : (l.map cGEdit).flatten = ((l.map encE).flatten).map AV.lit := by
  induction l with
  | nil => rfl
  | cons x l ih => simp only [List.map_cons, List.flatten_cons, ih, List.map_append]; rfl
theorem cmpLaysE (blk off size : Nat) (w : World) : CmpLays Try.prog 40 #[] encE 4 cmpE blk off size w := fun _ _ _ _ x y => Try.order x y _
theorem holds_id {w : World} {g : Nat} {cur : Array Value} {e : TypeId} {F : Array Value} (hb : w.heap[g]? = some (.cells cur e (0, 0))) (ht : cur.toList.take F.size = F.toList) : Go.Sort.Holds id w g 0 F := by
  intro j hj
  refine ⟨?_, by simp [World.frozen?, hb]⟩
  have h1 : (cur.toList.take F.size)[j]? = F.toList[j]? := by rw [ht]
  rw [List.getElem?_take_of_lt hj] at h1
  simp only [World.cell?, hb, Nat.zero_add]
  simp only [Option.isSome_none, Bool.false_eq_true, if_false]
  rw [← Array.getElem?_toList, h1]
  simp [hj]
theorem heap_id {w : World} {g n : Nat} {os : Array Obj} {cur : Array Value} {e : TypeId} {fr : Nat × Nat} (d : Array Value) (hb : w.heap[g]? = some (.cells cur e fr)) :
    (Go.Sort.grow (Go.Sort.putRow id (Go.Sort.ahead w n) g 0 d) os).heap[g]? = some (.cells (Go.Sort.putCells id 0 d cur) e fr) := by
  have hg : g < w.heap.size := (Array.getElem?_eq_some_iff.1 hb).1
  rw [Go.Sort.heap_grow_old _ _ (by simpa using hg)]
  simp [Go.Sort.putRow, Go.Sort.mapBlock, Go.Sort.ahead, Array.getElem?_modify, hb, Go.Sort.onCells]
theorem grownBy_id {w : World} {g n : Nat} {os : Array Obj} (d : Array Value) : w.grownBy (Go.Sort.grow (Go.Sort.putRow id (Go.Sort.ahead w n) g 0 d) os) (some g) := by
  refine ⟨rfl, rfl, rfl, by simp, fun k hk hne => ?_⟩
  rw [Go.Sort.heap_grow_old _ _ (by simpa using hk)]
  have : g ≠ k := fun e => hne (by rw [e])
  simp [Go.Sort.putRow, Go.Sort.mapBlock, Go.Sort.ahead, Array.getElem?_modify, this]
theorem take_id (cur d : Array Value) (h : d.size ≤ cur.size) : (Go.Sort.putCells id 0 d cur).toList.take d.size = d.toList := by
  apply List.ext_getElem?
  intro j
  by_cases hj : j < d.size
  · rw [List.getElem?_take_of_lt hj, Array.getElem?_toList]
    simp [Go.Sort.putCells, hj, show j < cur.size by omega]
  · rw [List.getElem?_take_eq_none (by omega), List.getElem?_eq_none (by simp; omega)]
theorem row_dom {H : Heap} {g : Nat} {o o' : AObj} (hg : H g = some o) (h1 : o.ownd = true) (h2 : o'.ownd = true) : (H.set g o').dom = H.dom := by
  funext k; apply propext
  unfold Heap.dom
  by_cases e : k = g
  · subst e
    rw [Heap.set_same]
    exact ⟨fun _ => ⟨o, hg, h1⟩, fun _ => ⟨o', rfl, h2⟩⟩
  · rw [Heap.set_ne _ _ e]
theorem tcall_sortE {g c t : Nat} {l : List GEdit} {H : Heap} (hg : H g = some (.row t 4 (l.map cGEdit) c)) (hsz : l.length < 4611686018427387904) :
    TCall Try.prog 39 [.own l.length (some (g, c)), .clo (.func 40) [] []] H (fun v H' => v = .tup [] ∧ H' = H.set g (.row t 4 ((sortE l).map cGEdit) c)) noE := by
  intro us w hv hh
  obtain ⟨u, us', rfl, h1, h2⟩ := hv.cons_inv
  obtain ⟨u2, us2, rfl, h3, h4⟩ := h2.cons_inv
  obtain rfl := h4.nil_inv
  obtain rfl := h1.buf_inv
  obtain ⟨cs1, cs2, rfl, q1, q2⟩ := h3.clo_inv
  obtain rfl := q1.nil_inv
  obtain rfl := q2.nil_inv
  obtain ⟨cur, b1, b2, b3, b4, b5, b6⟩ := hh g _ hg
  rw [List.length_map] at b3 b6
  rw [encE_lit] at b6
  have hfs : (Go.Sort.flatK encE 4 l.toArray).size = l.length * 4 := by simp [Go.Sort.size_flatK]
  have htk : cur.toList.take (l.length * 4) = (l.map encE).flatten := b6.lits
  have hH : Go.Sort.HoldsK encE 4 w g 0 l.toArray := holds_id b1 (by rw [hfs, flatK_list]; exact htk)
  have hlt := (Array.getElem?_eq_some_iff.1 b1).1
  have eg : ∀ args w, (callFunc 40 args).run Try.prog w = .ok (.enter 40 args) w := enters_of Try.func40 (by kernel_rfl) rfl
  have hc := AnyQ.slices_SortFunc_eq Try.sortCh 4 Try.isAgg49 Try.sizeOf49 encE (fun _ => rfl) (fun x v hv => by simp [encE] at hv; rcases hv with rfl | rfl | rfl | rfl <;> rfl) cmpE swoE 40 #[] g 0 c l.toArray w eg (cmpLaysE g 0 _ w) hH hlt (by simpa using hsz)
  change Calls Try.prog 39 _ _ _ at hc
  refine hc.mono ?_
  rintro e w' ⟨rfl, n, os, hw'⟩
  have hl := sortE_len l
  have hw' : w' = Go.Sort.grow (Go.Sort.putRow id (Go.Sort.ahead w n) g 0 (Go.Sort.flatK encE 4 (sortE l).toArray)) os := hw'
  subst hw'
  generalize hd : Go.Sort.flatK encE 4 (sortE l).toArray = d
  have hds : d.size = l.length * 4 := by rw [← hd, Go.Sort.size_flatK]; simp [hl]
  obtain ⟨q1, q2, q3, q4, q5⟩ := grownBy_id (w := w) (g := g) (n := n) (os := os) d
  have hat := heap_id (w := w) (n := n) (os := os) d b1
  have hdm : (H.set g (.row t 4 ((sortE l).map cGEdit) c)).dom = H.dom := row_dom hg rfl rfl
  have ev : Evol H w (H.set g (.row t 4 ((sortE l).map cGEdit) c)) (Go.Sort.grow (Go.Sort.putRow id (Go.Sort.ahead w n) g 0 d) os) :=
    ⟨q1, q2, q3, q4, fun k hk hn => q5 k hk (fun e => by injection e with e; subst e; exact hn ⟨_, hg, rfl⟩), fun k hk => .inl (by rw [hdm] at hk; exact hk)⟩
  refine ⟨_, ev, fun k x hx => ?_, .tup [], .tup [] rfl (fun i x u hx hu => by simp at hx), rfl, rfl⟩
  by_cases hk : k = g
  · subst hk
    rw [Heap.set_same] at hx
    injection hx with hx
    subst hx
    refine ⟨_, hat, by simp [Go.Sort.putCells, b2], by rw [List.length_map, hl]; exact b3, b4, fun e he => by obtain ⟨q, _, rfl⟩ := List.mem_map.1 he; rfl, ?_⟩
    have hcs : d.size ≤ cur.size := by
      rw [hds, b2]; exact Nat.mul_le_mul_right _ b3
    have e1 : (sortE l).length * 4 = d.size := by rw [hds, hl]
    rw [encE_lit, List.length_map, e1, take_id cur d hcs, ← hd, flatK_list]
    exact VRs.map_lit _
  · rw [Heap.set_ne _ _ hk] at hx
    exact (hh k x hx).mono ev.size ev.hk (q5 k (hh k x hx).lt (fun e => by injection e with e; exact hk e))
/-- .. that is nil -/
theorem tcall_sortE_nil {H : Heap} : TCall Try.prog 39 [.own 0 none, .clo (.func 40) [] []] H (fun v H' => v = .tup [] ∧ H' = H) noE := by
  intro us w hv hh
  obtain ⟨u, us', rfl, h1, h2⟩ := hv.cons_inv
  obtain ⟨u2, us2, rfl, h3, h4⟩ := h2.cons_inv
  obtain rfl := h4.nil_inv
  obtain ⟨_, rfl⟩ := h1.nil_inv
  have hc := AnyF.slices_SortFunc_none Try.sortCh none 0 u2 w
  change Calls Try.prog 39 _ _ _ at hc
  refine hc.mono ?_
  rintro e w' ⟨rfl, rfl⟩
  exact ⟨H, .refl _ _, hh, .tup [], .tup [] rfl (fun i x u hx hu => by simp at hx), rfl, rfl⟩
theorem w_sortE {t : Nat} {l : List GEdit} {H1 H : Heap} {p : Option (Nat × Nat)} (hsz : l.length < 4611686018427387904) (hH : Holds H1 [.own t 4 p (l.map cGEdit)] H) : TCall Try.prog 39 [.own (l.map cGEdit).length p, .clo (.func 40) [] []] H (fun v H' => v = .tup [] ∧ Holds H1 [.own t 4 p ((sortE l).map cGEdit)] H') noE := by
  rcases Own.inv hH.one_inv with ⟨rfl, e, rfl⟩ | ⟨g, c, rfl, hg, rfl⟩
  · have e0 : l = [] := by simpa using e
    subst e0
    refine tcall_sortE_nil.mono ?_ (fun _ _ h => h)
    rintro v H' ⟨rfl, rfl⟩
    have e2 : sortE [] = [] := List.eq_nil_of_length_eq_zero (sortE_len [])
    exact ⟨rfl, _, rfl, by rw [e2]; exact Own.nil rfl⟩
  · rw [List.length_map]
    refine (tcall_sortE (Heap.set_same _ _ _) hsz).mono ?_ (fun _ _ h => h)
    rintro v H' ⟨rfl, rfl⟩
    rw [Heap.set_set]
    exact ⟨rfl, _, rfl, Own.row g c hg rfl⟩
end Go.Vc
