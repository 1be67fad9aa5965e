/-
  Sets of texts (map[string]struct{}): opened, ranged over in whatever order, shut again.
-/
import Derived.Test.YtdbcklichbiihaaDoorTwx
import Derived.Maps.RangeRun
import Derived.Test.YtdbcklichbiihaaDoorSo
import Derived.Shelf.SortM.Plain
import Derived.Sort.OwnSorted
set_option linter.unusedVariables false
set_option linter.unusedSimpArgs false
namespace Go.Vc
open Go Go.ChangeMaps
def kS (s : List UInt8) : Value := .string ⟨⟨s⟩⟩
/-- a set of texts, as a map -/
def kv (ks : List (List UInt8)) : List (Value × AV) := ks.map fun s => (kS s, AV.agg [])
theorem kv_keys (ks : List (List UInt8)) : (kv ks).map (·.1) = ks.map kS := by unfold kv; rw [List.map_map]; rfl
theorem kv_vals (ks : List (List UInt8)) : (kv ks).map (·.2) = List.replicate ks.length (AV.agg []) := by
  unfold kv; rw [List.map_map]
  induction ks with
  | nil => rfl
  | cons k ks ih => rw [List.map_cons, ih]; rfl
theorem agg_nil_inv {w : World} {D : Nat → Prop} {v : Value} (h : VR w D (.agg []) v) : v = .agg #[] := by
  obtain ⟨us, rfl, h1⟩ := h.agg_inv
  rw [h1.nil_inv]
theorem raw_dom {H : Heap} {g : Nat} {o o' : AObj} (hg : H g = some o) (h1 : o.ownd = true) (h2 : o'.ownd = true) : (H.set g o').dom = H.dom := by
  funext k; apply propext
  unfold Heap.dom
  by_cases e : k = g
  · subst e
    rw [Heap.set_same]
    exact ⟨fun _ => ⟨o, hg, h1⟩, fun _ => ⟨o', rfl, h2⟩⟩
  · rw [Heap.set_ne _ _ e]
section
variable {P : Program} {N : Nat} {c : Code} {env : Env} {H H0 : Heap} {Q : QC} {o : Oper} {K : AV → Heap → Prop} {E : List PanicEntry → Heap → Prop}
theorem WpC.openM {g : Nat} {ks : List (List UInt8)} (hg : H g = some (.map (kv ks))) (k : ∀ (ents : List MapEntry) (clock : Nat), ents.map (·.key) = ks.map kS → (∀ e ∈ ents, e.val = .agg #[]) → (∀ e ∈ ents, e.born < clock) → (ents.map (·.born)).Nodup → WpC P N c env (H.set g (.raw (.map ents.toArray clock))) Q) : WpC P N c env H Q := fun fr n a w r => by
  obtain ⟨ents, clock, h1, h2, h3, h4, h5⟩ := r.heap g _ hg
  rw [kv_keys] at h2
  rw [kv_vals] at h3
  have hv : ∀ e ∈ ents, e.val = .agg #[] := fun e he => by
    obtain ⟨i, hi⟩ := List.mem_iff_getElem?.1 he
    have hlt : i < ks.length := by
      have := (List.getElem?_eq_some_iff.1 hi).1
      have h6 := congrArg List.length h2
      simp only [List.length_map] at h6; omega
    exact agg_nil_inv (h3.2 i (.agg []) e.val (by rw [List.getElem?_replicate, if_pos hlt]) (by rw [List.getElem?_map, hi]; rfl))
  have hd : (H.set g (.raw (.map ents.toArray clock))).dom = H.dom := raw_dom hg rfl rfl
  have ev : Evol H w (H.set g (.raw (.map ents.toArray clock))) w := Evol.write _ ⟨_, hg, rfl⟩ rfl rfl rfl rfl (fun _ _ => rfl)
  have hh : HeapR w (H.set g (.raw (.map ents.toArray clock))) := HeapR.write _ r.heap ev (fun _ _ => rfl) h1
  exact wpIn_mono (k ents clock h2 hv h4 h5 fr n a w ⟨r.size, fun t => by rw [hd]; exact r.vals t, hh, r.base, r.marks.evol ev, r.round.evol ev⟩) fun _ _ _ hp => hp.evol ev
theorem WpC.closeM {g : Nat} {ks : List (List UInt8)} {ents : List MapEntry} {clock : Nat} (hg : H g = some (.raw (.map ents.toArray clock))) (h2 : ents.map (·.key) = ks.map kS) (hv : ∀ e ∈ ents, e.val = .agg #[]) (h4 : ∀ e ∈ ents, e.born < clock) (h5 : (ents.map (·.born)).Nodup) (k : WpC P N c env (H.set g (.map (kv ks))) Q) : WpC P N c env H Q :=
  WpC.conv (fun fr a w r => by
    have h1 : w.heap[g]? = some (.map ents.toArray clock) := r.heap g _ hg
    have hd : (H.set g (.map (kv ks))).dom = H.dom := raw_dom hg rfl rfl
    have ev : Evol H w (H.set g (.map (kv ks))) w := Evol.write _ ⟨_, hg, rfl⟩ rfl rfl rfl rfl (fun _ _ => rfl)
    have hl := congrArg List.length h2
    simp only [List.length_map] at hl
    have hh : HeapR w (H.set g (.map (kv ks))) := HeapR.write _ r.heap ev (fun _ _ => rfl) ⟨ents, clock, h1, by rw [kv_keys]; exact h2, ⟨by rw [kv_vals]; simp [hl], fun i x u hx hu => by
      rw [kv_vals, List.getElem?_replicate] at hx
      rw [List.getElem?_map] at hu
      obtain ⟨e, he, rfl⟩ := Option.map_eq_some_iff.1 hu
      rw [hv e (List.mem_of_getElem? he)]
      split at hx
      · injection hx with hx; rw [← hx]; exact .agg [] rfl (fun _ _ _ h => by simp at h)
      · cases hx⟩, h4, h5⟩
    exact ⟨ev, r.size, fun t => by rw [hd]; exact r.vals t, hh, r.base, r.marks.evol ev, r.round.evol ev⟩) k
theorem WpO.rangeM {t k e : TypeId} {x : Operand} {g clock : Nat} {es : Array MapEntry} (ho : o.op = .range t x) (hu : P.underlying t = some (.map k e)) (hx : env.ev x = .lit (.map (some g))) (hg : H g = some (.raw (.map es clock)))
    (hk : ∀ g2, H g2 = none → K (.lit (.pointer (some ⟨g2, 0, none⟩))) (H.set g2 (.raw (.mapIter (some g) clock #[] clock)))) : WpO P o env H K E := by
  apply WpO.of_run (by simp [noDefer, ho])
  intro a w ⟨hr, hh⟩
  rw [ho] at hr
  have h0 := hr x (by simp [Op.operands])
  rw [hx] at h0
  have e1 := h0.lit_inv
  have hb : w.heap[g]? = some (.map es clock) := hh g _ hg
  refine ⟨_, .pointer (some ⟨w.heap.size, 0, none⟩), _, w.alloc (.mapIter (some g) clock #[] clock), ?_, Evol.alloc _ _, hh.alloc (.mapIter (some g) clock #[] clock) (.raw (.mapIter (some g) clock #[] clock)) (heap_alloc_new w (.mapIter (some g) clock #[] clock)), .lit _, hk _ (hh.fresh (Nat.le_refl _))⟩
  unfold execOp; rw [ho]
  simp only [e1, Sem.run_bind, run_range_map w t k e g es clock hu hb, Result.andThen_ok, Sem.run_pure]
theorem WpO.nextM {x : Operand} {r bm since c0 clock : Nat} {seen : Array Nat} {es : Array MapEntry} (ho : o.op = .next x false) (hx : env.ev x = .lit (.pointer (some ⟨r, 0, none⟩))) (hr : H r = some (.raw (.mapIter (some bm) since seen c0))) (hb : H bm = some (.raw (.map es clock))) (hold : ∀ x ∈ es.toList, x.born < since) (hsc : since ≤ c0)
    (k1 : (leftOf es seen).size = 0 → K (.tup [.lit (.bool false)]) H) (k2 : ∀ e ∈ (leftOf es seen).toList, K (.tup [.lit (.bool true), .lit e.key, .lit e.val]) (H.set r (.raw (.mapIter (some bm) since (seen.push e.born) clock)))) : WpO P o env H K E := by
  apply WpO.of_run (by simp [noDefer, ho])
  intro a w ⟨hor, hh⟩
  rw [ho] at hor
  have h0 := hor x (by simp [Op.operands])
  rw [hx] at h0
  have e1 := h0.lit_inv
  have hr' : w.heap[r]? = some (.mapIter (some bm) since seen c0) := hh r _ hr
  have hb' : w.heap[bm]? = some (.map es clock) := hh bm _ hb
  rcases run_next_at (P := P) w o.type r bm since c0 seen es clock hr' hb' hold hsc with ⟨h1, h2⟩ | ⟨e, he, w1, hw1, h2⟩
  · refine ⟨_, .tuple #[.bool false], H, w, ?_, Evol.refl _ _, hh, .tup [.bool false] rfl (fun i x u hx hu => by
      cases i with
      | zero => simp at hx hu; subst hx; subst hu; exact .lit _
      | succ i => simp at hx), k1 h1⟩
    unfold execOp; rw [ho]
    simp only [e1, Sem.run_bind, h2, Result.andThen_ok, Sem.run_pure]
  · have q1 : w1.heap = w.heap := by rcases hw1 with h | h <;> rw [h] <;> rfl
    have q2 : w1.os = w.os := by rcases hw1 with h | h <;> rw [h] <;> rfl
    have q3 : w1.tape = w.tape := by rcases hw1 with h | h <;> rw [h] <;> rfl
    have q4 : w1.output = w.output := by rcases hw1 with h | h <;> rw [h] <;> rfl
    have hlt := (Array.getElem?_eq_some_iff.1 hr').1
    have hsz : (setBlock w1 r (.mapIter (some bm) since (seen.push e.born) clock)).heap.size = w.heap.size := by
      show (w1.heap.setIfInBounds r _).size = _
      rw [q1]; simp
    have hk : ∀ j, j ≠ r → (setBlock w1 r (.mapIter (some bm) since (seen.push e.born) clock)).heap[j]? = w.heap[j]? := fun j hj => by
      show (w1.heap.setIfInBounds r _)[j]? = _
      rw [q1, Array.getElem?_setIfInBounds_ne (Ne.symm hj)]
    have hat : (setBlock w1 r (.mapIter (some bm) since (seen.push e.born) clock)).heap[r]? = some (.mapIter (some bm) since (seen.push e.born) clock) := by
      show (w1.heap.setIfInBounds r _)[r]? = _
      rw [q1]; simp [hlt]
    have ev : Evol H w (H.set r (.raw (.mapIter (some bm) since (seen.push e.born) clock))) (setBlock w1 r (.mapIter (some bm) since (seen.push e.born) clock)) :=
      Evol.write _ ⟨_, hr, rfl⟩ q2 q3 q4 hsz hk
    refine ⟨_, .tuple #[.bool true, e.key, e.val], _, _, ?_, ev, HeapR.write _ hh ev hk hat, .tup [.bool true, e.key, e.val] rfl (fun i x u hx hu => ?_), k2 e he⟩
    · unfold execOp; rw [ho]
      simp only [e1, Sem.run_bind, h2, Result.andThen_ok, Sem.run_pure]
    · match i with
      | 0 => simp at hx hu; subst hx; subst hu; exact .lit _
      | 1 => simp at hx hu; subst hx; subst hu; exact .lit _
      | 2 => simp at hx hu; subst hx; subst hu; exact .lit _
      | i + 3 => simp at hx
theorem Exact.entryM {x : Operand} {r bm since clock : Nat} {seen : Array Nat} {es : Array MapEntry} {e : MapEntry} (ho : o.op = .entry x) (hx : env.ev x = .lit (.pointer (some ⟨r, 0, none⟩))) (hr : H r = some (.raw (.mapIter (some bm) since (seen.push e.born) clock))) (hb : H bm = some (.raw (.map es clock))) (he : e ∈ es.toList) (hn : (es.toList.map (·.born)).Nodup) : Exact P o env H (.tup [.lit e.key, .lit e.val]) := by
  apply Exact.of_run (by simp [noDefer, ho])
  intro a w ⟨hor, hh⟩
  rw [ho] at hor
  have h0 := hor x (by simp [Op.operands])
  rw [hx] at h0
  have e1 := h0.lit_inv
  have h2 := run_entry_at (P := P) w r bm since seen es clock e (hh r _ hr) (hh bm _ hb) he hn
  refine ⟨.tuple #[e.key, e.val], ?_, .tup [e.key, e.val] rfl (fun i x u hx hu => ?_)⟩
  · unfold execOp; rw [ho]
    simp only [e1, Sem.run_bind, h2, Result.andThen_ok, Sem.run_pure]
  · match i with
    | 0 => simp at hx hu; subst hx; subst hu; exact .lit _
    | 1 => simp at hx hu; subst hx; subst hu; exact .lit _
    | i + 2 => simp at hx
end
end Go.Vc

set_option linter.unusedVariables false
set_option linter.unusedSimpArgs false
namespace Go.Vc
open Go Go.Sh
/-- what the library's contract says -/
def SortsS (P : Program) (f : FuncId) : Prop := ∀ (blk off cap : Nat) (ss : List (List UInt8)) (w : World), Go.Sort.Holds Go.Proofs.encStr w blk off ss.toArray → blk < w.heap.size → ss.length < 4611686018427387904 →
  Calls P f #[.slice (some ⟨blk, off, none⟩) ss.length cap] w fun e w' => e = .returned (.tuple #[]) ∧ ∃ n os, w' = Go.Sort.grow (Go.Sort.putRow Go.Proofs.encStr (Go.Sort.ahead w n) blk off (sortS ss).toArray) os
theorem tcall_sort {P : Program} {f : FuncId} (hS : SortsS P f) {g c t : Nat} {ss : List (List UInt8)} {H : Heap} (hg : H g = some (.row t 1 (ss.map cS) c)) (hsz : ss.length < 4611686018427387904) :
    TCall P f [.own ss.length (some (g, c))] H (fun v H' => v = .tup [] ∧ H' = H.set g (.row t 1 ((sortS ss).map cS) c)) noE := by
  intro us w hv hh
  obtain ⟨u, us', rfl, h1, h2⟩ := hv.cons_inv
  obtain rfl := h2.nil_inv
  obtain rfl := h1.buf_inv
  obtain ⟨cur, b1, b2, b3, b4, b5, b6⟩ := hh g _ hg
  rw [List.length_map] at b3 b6
  have fl : ∀ l : List (List UInt8), (l.map cS).flatten = (l.map Go.Proofs.encStr).map AV.lit := by
    intro l
    induction l with
    | nil => rfl
    | cons x l ih => simp only [List.map_cons, List.flatten_cons, ih]; rfl
  rw [fl, Nat.mul_one] at b6
  have htk : cur.toList.take ss.length = ss.map Go.Proofs.encStr := b6.lits
  have hH := holds_of_block b1 htk
  have hlt := (Array.getElem?_eq_some_iff.1 b1).1
  refine (hS g 0 c ss w hH hlt hsz).mono ?_
  rintro e w' ⟨rfl, n, os, rfl⟩
  have hl : (sortS ss).length = ss.length := by simp [sortS]
  obtain ⟨q1, q2, q3, q4, q5⟩ := grownBy_sorted (w := w) (g := g) (n := n) (os := os) (sortS ss).toArray
  have hat := heap_sorted (w := w) (n := n) (os := os) (sortS ss).toArray b1
  have hd : (H.set g (.row t 1 ((sortS ss).map cS) c)).dom = H.dom := raw_dom hg rfl rfl
  have ev : Evol H w (H.set g (.row t 1 ((sortS ss).map cS) c)) (Go.Sort.grow (Go.Sort.putRow Go.Proofs.encStr (Go.Sort.ahead w n) g 0 (sortS ss).toArray) os) :=
    ⟨q1, q2, q3, q4, fun k hk hn => q5 k hk (fun e => by injection e with e; subst e; exact hn ⟨_, hg, rfl⟩), fun k hk => .inl (by rw [hd] at hk; exact hk)⟩
  refine ⟨_, ev, fun k x hx => ?_, .tup [], .tup [] rfl (fun i x u hx hu => by simp at hx), rfl, rfl⟩
  by_cases hk : k = g
  · subst hk
    rw [Heap.set_same] at hx
    injection hx with hx
    subst hx
    refine ⟨_, hat, by simp [Go.Sort.putCells, b2], by rw [List.length_map, hl]; exact b3, b4, fun e he => by obtain ⟨q, _, rfl⟩ := List.mem_map.1 he; rfl, ?_⟩
    rw [fl, List.length_map, Nat.mul_one, take_putCells cur (sortS ss) (by omega)]
    exact VRs.map_lit _
  · rw [Heap.set_ne _ _ hk] at hx
    exact (hh k x hx).mono ev.size ev.hk (q5 k (hh k x hx).lt (fun e => by injection e with e; exact hk e))
/-- .. that is nil -/
theorem tcall_sort_nil {P : Program} {f : FuncId} (hS : ∀ (w : World), Calls P f #[.slice none 0 0] w fun e w' => e = .returned (.tuple #[]) ∧ w' = w) {H : Heap} : TCall P f [.own 0 none] H (fun v H' => v = .tup [] ∧ H' = H) noE := by
  intro us w hv hh
  obtain ⟨u, us', rfl, h1, h2⟩ := hv.cons_inv
  obtain rfl := h2.nil_inv
  obtain ⟨_, rfl⟩ := h1.nil_inv
  refine (hS w).mono ?_
  rintro e w' ⟨rfl, rfl⟩
  exact ⟨H, .refl _ _, hh, .tup [], .tup [] rfl (fun i x u hx hu => by simp at hx), rfl, rfl⟩
end Go.Vc

set_option linter.unusedVariables false
set_option linter.unusedSimpArgs false
namespace Go.Vc
open Go Go.Sh
theorem keyEq_kS (s k : List UInt8) : keyEq (kS s) (kS k) = decide (s = k) := rfl
theorem mfind_in (s : List UInt8) : ∀ ks : List (List UInt8), s ∈ ks → ∃ i, mfind (kS s) (kv ks) = some (i, AV.agg []) ∧ ks[i]? = some s
  | [], h => by cases h
  | k :: ks, h => by
    show ∃ i, (if keyEq (kS s) (kS k) = true then some (0, AV.agg []) else (mfind (kS s) (kv ks)).map fun p => (p.1 + 1, p.2)) = some (i, AV.agg []) ∧ (k :: ks)[i]? = some s
    rw [keyEq_kS]
    by_cases e : s = k
    · exact ⟨0, by rw [decide_eq_true e, if_pos rfl], by rw [e]; rfl⟩
    · have hm : s ∈ ks := by rcases List.mem_cons.1 h with h | h; exact absurd h e; exact h
      obtain ⟨i, h1, h2⟩ := mfind_in s ks hm
      exact ⟨i + 1, by rw [decide_eq_false e, if_neg (by simp), h1]; rfl, by rw [List.getElem?_cons_succ]; exact h2⟩
theorem mfind_out (s : List UInt8) : ∀ ks : List (List UInt8), s ∉ ks → mfind (kS s) (kv ks) = none
  | [], _ => rfl
  | k :: ks, h => by
    show (if keyEq (kS s) (kS k) = true then some (0, AV.agg []) else (mfind (kS s) (kv ks)).map fun p => (p.1 + 1, p.2)) = none
    rw [keyEq_kS, decide_eq_false (fun e => h (by simp [e])), if_neg (by simp), mfind_out s ks (fun hm => h (List.mem_cons_of_mem _ hm))]; rfl
theorem mput_kv (s : List UInt8) (ks : List (List UInt8)) : mput (kv ks) (kS s) (.agg []) = kv (putS s ks) := by
  unfold mput putS
  by_cases h : s ∈ ks
  · obtain ⟨i, h1, h2⟩ := mfind_in s ks h
    rw [h1, if_pos h]
    simp only
    apply List.ext_getElem?
    intro j
    rw [List.getElem?_set]
    by_cases e : i = j
    · subst e
      have hlt := (List.getElem?_eq_some_iff.1 h2).1
      rw [if_pos rfl, if_pos (by unfold kv; rw [List.length_map]; exact hlt)]
      unfold kv
      rw [List.getElem?_map, h2]; rfl
    · rw [if_neg e]
  · rw [mfind_out s ks h, if_neg h]
    simp only [kv, List.map_append, List.map_cons, List.map_nil]
theorem kv_ok {P : Program} {kt : TypeId} (hu : P.underlying kt = some .string) (ks : List (List UInt8)) : keysOk P kt (kv ks) := by
  intro e he
  unfold kv at he
  obtain ⟨s, _, rfl⟩ := List.mem_map.1 he
  simp only [isKey, hu, kS]
end Go.Vc

set_option linter.unusedVariables false
set_option linter.unusedSimpArgs false
namespace Go.Vc
open Go
theorem Holds.reset_own {B H : Heap} {t size r : Nat} {p : Option (Nat × Nat)} {es : List (List AV)} {o o' : AObj} (h : Holds B [.own t size p es] H) (hr : B r = some o) : Holds (B.set r o') [.own t size p es] (H.set r o') := by
  obtain ⟨H1, h1, h2⟩ := h
  have h1 : H1 = B := h1
  subst h1
  refine ⟨_, rfl, ?_⟩
  rcases Own.inv h2 with ⟨rfl, rfl, rfl⟩ | ⟨g, c, rfl, hg, rfl⟩
  · exact .nil rfl
  · have hne : g ≠ r := by rintro rfl; rw [hr] at hg; cases hg
    have e : (H1.set g (.row t size es c)).set r o' = (H1.set r o').set g (.row t size es c) := by
      funext k
      simp only [Heap.set]
      by_cases e1 : k = r
      · subst e1
        simp [Ne.symm hne]
      · by_cases e2 : k = g
        · subst e2; simp [hne]
        · simp [e1, e2]
    show Own _ t size es es.length (some (g, c)) _
    rw [e]
    exact .row g c (by rw [Heap.set_ne _ _ hne]; exact hg) rfl
end Go.Vc
