/-
  Part of the proof of If.
-/
import Derived.Test.YtgmpeddopfnioaaGreatDoorQiMmx
import Derived.Test.YtgmpeddopfnioaaGreatDoorQiSox
import Derived.Sort.KeysCollected

set_option linter.unusedVariables false
set_option linter.unusedSimpArgs false
namespace Go.Vc
open Go Go.ChangeMaps
section
variable {P : Program} {N : Nat} {c : Code} {env : Env} {H H0 : Heap} {Q : QC} {o : Oper} {K : AV → Heap → Prop} {E : List PanicEntry → Heap → Prop}
theorem WpC.openV {g : Nat} {es : List (Value × AV)} (hg : H g = some (.map es)) (k : ∀ (ents : List MapEntry) (clock : Nat), ents.map (·.key) = es.map (·.1) → (∀ e ∈ ents, e.born < clock) → (ents.map (·.born)).Nodup → WpC P N c env (H.set g (.mopen ents clock (es.map (·.2)))) Q) : WpC P N c env H Q := fun fr n a w r => by
 obtain ⟨ents, clock, h1, h2, h3, h4, h5⟩ := r.heap g _ hg
 have hd : (H.set g (.mopen ents clock (es.map (·.2)))).dom = H.dom := raw_dom hg rfl rfl
 have ev : Evol H w (H.set g (.mopen ents clock (es.map (·.2)))) w := Evol.write _ ⟨_, hg, rfl⟩ rfl rfl rfl rfl (fun _ _ => rfl)
 have hh : HeapR w (H.set g (.mopen ents clock (es.map (·.2)))) := vU _ r.heap ev (fun _ _ => rfl) ⟨h1, by rw [hd]; exact h3⟩
 exact wpIn_mono (k ents clock h2 h4 h5 fr n a w ⟨r.size, fun t => by rw [hd]; exact r.vals t, hh, r.base, r.marks.evol ev, r.round.evol ev, r.quiet⟩) fun _ _ _ hp => hp.evol ev
theorem WpC.closeV {g : Nat} {es : List (Value × AV)} {ents : List MapEntry} {clock : Nat} (hg : H g = some (.mopen ents clock (es.map (·.2)))) (h2 : ents.map (·.key) = es.map (·.1)) (h4 : ∀ e ∈ ents, e.born < clock) (h5 : (ents.map (·.born)).Nodup) (k : WpC P N c env (H.set g (.map es)) Q) : WpC P N c env H Q :=
 WpC.conv (fun fr a w r => by
  have h1 := r.heap g _ hg
  have hd : (H.set g (.map es)).dom = H.dom := raw_dom hg rfl rfl
  have ev : Evol H w (H.set g (.map es)) w := Evol.write _ ⟨_, hg, rfl⟩ rfl rfl rfl rfl (fun _ _ => rfl)
  have hh : HeapR w (H.set g (.map es)) := vU _ r.heap ev (fun _ _ => rfl) ⟨ents, clock, h1.1, h2, by rw [hd]; exact h1.2, h4, h5⟩
  exact ⟨ev, r.size, fun t => by rw [hd]; exact r.vals t, hh, r.base, r.marks.evol ev, r.round.evol ev, r.quiet⟩) k
theorem WpO.rangeV {t k e : TypeId} {x : Operand} {g clock : Nat} {ents : List MapEntry} {vs : List AV} (ho : o.op = .range t x) (hu : P.underlying t = some (.map k e)) (hx : env.ev x = .lit (.map (some g))) (hg : H g = some (.mopen ents clock vs))
  (hk : ∀ g2, H g2 = none → K (.lit (.pointer (some ⟨g2, 0, none⟩))) (H.set g2 (.raw (.mapIter (some g) clock #[] clock)))) : WpO P o env H K E := by
 apply vQ (by simp [noDefer, ho])
 intro a w ⟨hr, hh⟩
 rw [ho] at hr
 have h0 := hr x (by simp [Op.operands])
 rw [hx] at h0
 have e1 := h0.lit_inv
 have hb : w.heap[g]? = some (.map ents.toArray clock) := (hh g _ hg).1
 refine ⟨_, .pointer (some ⟨w.heap.size, 0, none⟩), _, w.alloc (.mapIter (some g) clock #[] clock), ?_, Evol.alloc _ _, hh.alloc (.mapIter (some g) clock #[] clock) (.raw (.mapIter (some g) clock #[] clock)) (heap_alloc_new w (.mapIter (some g) clock #[] clock)), .lit _, hk _ (hh.fresh (Nat.le_refl _))⟩
 unfold execOp; rw [ho]
 simp only [e1, Sem.run_bind, run_range_map w t k e g ents.toArray clock hu hb, Result.andThen_ok, Sem.run_pure]
theorem WpO.nextV {x : Operand} {r bm since c0 clock : Nat} {seen : Array Nat} {ents : List MapEntry} {vs : List AV} (ho : o.op = .next x false) (hx : env.ev x = .lit (.pointer (some ⟨r, 0, none⟩))) (hr : H r = some (.raw (.mapIter (some bm) since seen c0))) (hb : H bm = some (.mopen ents clock vs)) (hold : ∀ x ∈ ents, x.born < since) (hsc : since ≤ c0)
    (k1 : (leftOf ents.toArray seen).size = 0 → K (.tup [.lit (.bool false)]) H) (k2 : ∀ e ∈ (leftOf ents.toArray seen).toList, K (.tup [.lit (.bool true), .lit e.key, .lit e.val]) (H.set r (.raw (.mapIter (some bm) since (seen.push e.born) clock)))) : WpO P o env H K E := by
  apply vQ (by simp [noDefer, ho])
  intro a w ⟨hor, hh⟩
  rw [ho] at hor
  have h0 := hor x (by simp [Op.operands])
  rw [hx] at h0
  have e1 := h0.lit_inv
  have hr' : w.heap[r]? = some (.mapIter (some bm) since seen c0) := hh r _ hr
  have hb' : w.heap[bm]? = some (.map ents.toArray clock) := (hh bm _ hb).1
  rcases run_next_at (P := P) w o.type r bm since c0 seen ents.toArray clock hr' hb' (fun x hx => hold x (by simpa using hx)) hsc with ⟨h1, h2⟩ | ⟨e, he, w1, hw1, h2⟩
  · refine ⟨_, .tuple #[.bool false], H, w, ?_, Evol.refl _ _, hh, .tup [.bool false] rfl (fun i x u hx hu => by
      cases i with
      | zero => simp at hx hu; subst hx; subst hu; exact .lit _
      | succ i => simp at hx), k1 h1⟩
    unfold execOp; rw [ho]
    simp only [e1, Sem.run_bind, h2, Result.andThen_ok, Sem.run_pure]
  · have q1 : w1.heap = w.heap := by rcases hw1 with h | h <;> rw [h] <;> rfl
    have q2 : w1.os = w.os := by rcases hw1 with h | h <;> rw [h] <;> rfl
    have q3 : w1.tape = w.tape := by rcases hw1 with h | h <;> rw [h] <;> rfl
    have q4 : w1.output = w.output := by rcases hw1 with h | h <;> rw [h] <;> rfl
    have hlt := (Array.getElem?_eq_some_iff.1 hr').1
    have hsz : (setBlock w1 r (.mapIter (some bm) since (seen.push e.born) clock)).heap.size = w.heap.size := by
      show (w1.heap.setIfInBounds r _).size = _
      rw [q1]; simp
    have hk : ∀ j, j ≠ r → (setBlock w1 r (.mapIter (some bm) since (seen.push e.born) clock)).heap[j]? = w.heap[j]? := fun j hj => by
      show (w1.heap.setIfInBounds r _)[j]? = _
      rw [q1, Array.getElem?_setIfInBounds_ne (Ne.symm hj)]
    have hat : (setBlock w1 r (.mapIter (some bm) since (seen.push e.born) clock)).heap[r]? = some (.mapIter (some bm) since (seen.push e.born) clock) := by
      show (w1.heap.setIfInBounds r _)[r]? = _
      rw [q1]; simp [hlt]
    have ev : Evol H w (H.set r (.raw (.mapIter (some bm) since (seen.push e.born) clock))) (setBlock w1 r (.mapIter (some bm) since (seen.push e.born) clock)) :=
      Evol.write _ ⟨_, hr, rfl⟩ q2 q3 q4 hsz hk
    refine ⟨_, .tuple #[.bool true, e.key, e.val], _, _, ?_, ev, vU _ hh ev hk hat, .tup [.bool true, e.key, e.val] rfl (fun i x u hx hu => ?_), k2 e he⟩
    · unfold execOp; rw [ho]
      simp only [e1, Sem.run_bind, h2, Result.andThen_ok, Sem.run_pure]
    · match i with
      | 0 => simp at hx hu; subst hx; subst hu; exact .lit _
      | 1 => simp at hx hu; subst hx; subst hu; exact .lit _
      | 2 => simp at hx hu; subst hx; subst hu; exact .lit _
      | i + 3 => simp at hx
theorem Exact.entryV {x : Operand} {r bm since clock : Nat} {seen : Array Nat} {ents : List MapEntry} {vs : List AV} {e : MapEntry} (ho : o.op = .entry x) (hx : env.ev x = .lit (.pointer (some ⟨r, 0, none⟩))) (hr : H r = some (.raw (.mapIter (some bm) since (seen.push e.born) clock))) (hb : H bm = some (.mopen ents clock vs)) (he : e ∈ ents) (hn : (ents.map (·.born)).Nodup) : Exact P o env H (.tup [.lit e.key, .lit e.val]) := by
 apply vB (by simp [noDefer, ho])
 intro a w ⟨hor, hh⟩
 rw [ho] at hor
 have h0 := hor x (by simp [Op.operands])
 rw [hx] at h0
 have e1 := h0.lit_inv
 have h2 := run_entry_at (P := P) w r bm since seen ents.toArray clock e (hh r _ hr) (hh bm _ hb).1 (by simpa using he) (by simpa using hn)
 refine ⟨.tuple #[e.key, e.val], ?_, .tup [e.key, e.val] rfl (fun i x u hx hu => ?_)⟩
 ·unfold execOp; rw [ho]
  simp only [e1, Sem.run_bind, h2, Result.andThen_ok, Sem.run_pure]
 ·match i with
  | 0 => simp at hx hu; subst hx; subst hu; exact .lit _
  | 1 => simp at hx hu; subst hx; subst hu; exact .lit _
  | i + 2 => simp at hx
end
end Go.Vc
set_option linter.unusedVariables false
set_option linter.unusedSimpArgs false
set_option maxRecDepth 20000
set_option maxHeartbeats 8000000
namespace Go.Proofs.YtgmpeddopfnioaaGreatDoor
open Go Go.Vc Go.Sh Go.ChangeMaps
attribute [local irreducible] WpC WpOps WpPi Go.Vc.WpO Exact TCall VEnds Sh.loopS
theorem ekN : ElemOk Tryz.prog 23 9 1 16 := vV (by kernel_rfl)
theorem ekA : ElemOk Tryz.prog 60 69 5 80 := vV (by kernel_rfl)
theorem names_in {H : Heap} {g gm : Nat} {files told : AV} {inc : AV} {ms : List (List UInt8 × GMacro)} (hc : (ms.length + 1) * 80 ≤ 140737488355328) (hg : H g = some (.cells 67 [files, .lit (.map (some gm)), told, inc])) (hm : H gm = some (.map (kvM ms))) :
    TCall Tryz.prog 116 [.lit (.pointer (some ⟨g, 0, none⟩))] H (fun v H' => v = .tup [.rows 1 ((sortS (ms.map (·.1))).map cS), .rows 5 (((sortS (ms.map (·.1))).map fun n => (getM n ms).getD zMacro).map cGMacro)] ∧ H' = H) noE := by
  refine TCall.up (TCall.body Tryz.func116 rfl rfl ?_)
  have hne : g ≠ gm := by rintro rfl; rw [hg] at hm; cases hm
  refine WpC.openV hm (fun ents clock h2 h4 h5 => ?_)
  have hk2 : (kvM ms).map (·.1) = (ms.map (·.1)).map kS := by unfold kvM; rw [List.map_map, List.map_map]; rfl
  generalize hvs : (kvM ms).map (·.2) = vs
  generalize hR : H.set gm (.mopen ents clock vs) = Hr
  have hgr : Hr gm = some (.mopen ents clock vs) := by rw [← hR]; exact uO _ _ _
  have hgc : Hr g = some (.cells 67 [files, .lit (.map (some gm)), told, inc]) := by rw [← hR, uS _ _ hne]; exact hg
  have hlen : ents.length = ms.length := by have := congrArg List.length h2; simpa [kvM] using this
  refine uC ?_
  refine uA 2 rfl trivial ?_
  refine WpOps.nil ?_
  refine WpC.seq ?_
  refine uC ?_
  refine uA 3 rfl trivial ?_
  refine uB (v := .lit (.map (some gm))) rfl rfl (Exact.load rfl rfl hgc rfl rfl) ?_
  refine uE rfl rfl (WpO.rangeV rfl Tryz.underlying65 rfl hgr fun r hr => ?_)
  refine WpOps.nil ?_
  have hgr2 : r ≠ gm := by rintro rfl; rw [hgr] at hr; cases hr
  have hH := (show Holds (Hr.set r (.raw (.mapIter (some gm) clock #[] clock))) [] _ from rfl).nil 9 1
  refine WpC.block ?_
  refine WpC.loop (fun n env H => ∃ (seen : List MapEntry) (out : List (List UInt8)) (p : Option (Nat × Nat)), n = (leftOf ents.toArray (seen.map (·.born)).toArray).size ∧ knows env [(0, .lit (.pointer (some ⟨g, 0, none⟩))), (2, .own (out.map cS).length p), (3, .own 0 none), (11, .lit (.pointer (some ⟨r, 0, none⟩)))] ∧ Holds (Hr.set r (.raw (.mapIter (some gm) clock (seen.map (·.born)).toArray clock))) [.own 9 1 p (out.map cS)] H ∧ seen.Nodup ∧ (∀ e ∈ seen, e ∈ ents) ∧ out.map kS = seen.map (·.key) ∧ seen.length + (leftOf ents.toArray (seen.map (·.born)).toArray).size ≤ ents.length) _ ⟨[], [], none, rfl, ⟨rfl, rfl, rfl, rfl, trivial⟩, hH, .nil, (fun e he => by cases he), rfl, by unfold leftOf; have := Array.size_filter_le (p := fun e : MapEntry => !(([] : List MapEntry).map (·.born)).toArray.contains e.born) (xs := ents.toArray); simp at this ⊢; first | done | exact this⟩ ?_
  rintro n env H3 ⟨seen, out, p, rfl, hk, hH, sn, sm, so, sl⟩
  rw [← hk.eq]
  have hHr := hH.le r _ (uO _ _ _)
  have hHg := hH.le gm _ ((uS _ _ (Ne.symm hgr2)).trans hgr)
  refine uC ?_
  refine uE rfl rfl (WpO.nextV (r := r) (bm := gm) (since := clock) (c0 := clock) rfl rfl hHr hHg (fun x hx => h4 x hx) (Nat.le_refl _) (fun h0 => ?_) (fun e he => ?_))
  · refine uA 1 rfl trivial ?_
    refine WpOps.nil ?_
    refine WpC.seq ?_
    refine wI rfl ?_
    refine WpC.exit ?_
    have hall := all_seen ents.toArray _ h0
    have hmem : ∀ x ∈ ents, x ∈ seen := fun x hx => by
      have := hall x (by simpa using hx)
      simp only [List.contains_toArray, List.contains_iff_mem, List.mem_map] at this
      obtain ⟨e, he, hb⟩ := this
      rw [born_inj h5 hx (sm e he) hb.symm]; exact he
    have ndE : ents.Nodup := List.Pairwise.of_map (·.born) (fun a b h e => h (by rw [e])) h5
    have hperm : seen.Perm ents := (List.perm_ext_iff_of_nodup sn ndE).2 fun a => ⟨sm a, hmem a⟩
    have hkp : (out.map kS).Perm ((ms.map (·.1)).map kS) := by rw [so, ← hk2, ← h2]; exact hperm.map _
    have ho : out.Perm (ms.map (·.1)) := by
      have h6 := hkp.map (fun v => match v with | .string ⟨⟨l⟩⟩ => l | _ => ([] : List UInt8))
      rw [List.map_map, List.map_map] at h6
      have e6 : ∀ l : List (List UInt8), l.map ((fun v => match v with | .string ⟨⟨l⟩⟩ => l | _ => ([] : List UInt8)) ∘ kS) = l := fun l => by
        induction l with
        | nil => rfl
        | cons x l ih => rw [List.map_cons, ih]; rfl
      rwa [e6, e6] at h6
    have hsort : sortS out = sortS (ms.map (·.1)) := mergeSort_of_perm ho
    have hlo := ho.length_eq
    rw [List.length_map] at hlo
    have hsz : out.length < 4611686018427387904 := by omega
    have hBl : H.le ((Hr.set r (.raw (.mapIter (some gm) clock (seen.map (·.born)).toArray clock))).set gm (.map (kvM ms))) := fun q o hq => by
      by_cases e1 : q = gm
      · subst e1; rw [uO]; rw [hm] at hq; exact hq
      · rw [uS _ _ e1]
        have e2 : q ≠ r := by
          rintro rfl
          have : Hr q = some o := by rw [← hR, uS _ _ e1]; exact hq
          rw [hr] at this; cases this
        rw [uS _ _ e2, ← hR, uS _ _ e1]; exact hq
    have hBg : (Hr.set r (.raw (.mapIter (some gm) clock (seen.map (·.born)).toArray clock))) gm = some (.mopen ents clock ((kvM ms).map (·.2))) := by rw [hvs]; exact (uS _ _ (Ne.symm hgr2)).trans hgr
    generalize hBe : Hr.set r (.raw (.mapIter (some gm) clock (seen.map (·.born)).toArray clock)) = B at *
    refine uC ?_
    refine uA 1 rfl trivial ?_
    refine uE rfl rfl (vH (v := .tup []) rfl rfl rfl hH (i := 0) rfl (fun H1 hl hh => w_sortS hsz hh) fun H' hH => ?_)
    refine uN 2 (own_sortS _ _) ?_
    refine WpOps.nil ?_
    refine vJ (t := 2) (i := 0) hH rfl rfl (fun H' hH => ?_)
    obtain rfl : H' = B := hH
    refine WpC.closeV hBg h2 h4 h5 ?_
    refine WpC.drop hBl ?_
    rw [hsort]
    generalize hns : sortS (ms.map (·.1)) = ns
    have hnl : ns.length = ms.length := by rw [← hns]; unfold sortS; rw [List.length_mergeSort, List.length_map]
    have hH := (show Holds H [] H from rfl).nil 69 5
    have hix : ∀ i, (h : i < ns.length) → Sh.ix ns (i : Int) = some ns[i] := fun i h => by rw [Sh.ix_nat]; exact List.getElem?_eq_getElem h
    refine WpC.seq ?_
    refine uC ?_
    refine uA 2 rfl trivial ?_
    refine uN 23 (len_map _ _) ?_
    refine uA 1 rfl trivial ?_
    refine WpOps.nil ?_
    refine WpC.block ?_
    refine WpC.loop (fun n env H4 => ∃ (j : Nat) (acc : List GMacro) (q : Option (Nat × Nat)), n = ns.length - j ∧ j ≤ ns.length ∧ knows env [(0, .lit (.pointer (some ⟨g, 0, none⟩))), (2, .rows 1 (ns.map cS)), (3, .own (acc.map cGMacro).length q), (22, .rows 1 (ns.map cS)), (23, iA ns.length), (24, iA j)] ∧ Holds H [.own 69 5 q (acc.map cGMacro)] H4 ∧ acc = (ns.take j).map fun n => (getM n ms).getD zMacro) _ ⟨0, [], none, rfl, Nat.zero_le _, ⟨rfl, rfl, rfl, rfl, rfl, rfl, trivial⟩, hH, rfl⟩ ?_
    clear hH hk
    rintro n env H4 ⟨j, acc, q, rfl, hj, hk, hH, hacc⟩
    rw [← hk.eq]
    refine uC ?_
    refine uA 1 rfl trivial ?_
    refine WpOps.nil ?_
    refine WpC.seq ?_
    refine uF rfl (fun hb => ?_) (fun hb => ?_)
    · have hlt : j < ns.length := by simpa using hb
      have hal : acc.length = j := by rw [hacc, List.length_map, List.length_take]; omega
      refine WpC.skip ?_
      refine WpC.seq ?_
      refine WpC.block ?_
      refine uC ?_
      refine uB (v := .rop (cS ns[j])) rfl rfl (uR cS (hix j hlt) rfl rfl rfl rfl (by kernel_rfl) (by decide)) ?_
      refine uB (v := sA ns[j]) rfl rfl (uG rfl rfl rfl) ?_
      refine uA 1 rfl trivial ?_
      refine WpOps.nil ?_
      refine WpC.region ?_
      refine uA 4 rfl trivial ?_
      refine uB (v := .lit (.map (some gm))) rfl rfl (Exact.load rfl rfl (hH.le _ _ hg) rfl rfl) ?_
      refine uA 1 rfl trivial ?_
      refine uB (v := .agg (cGMacro ((getM ns[j] ms).getD zMacro))) rfl rfl (Exact.lookM0 rfl (by kernel_rfl) rfl (hH.le _ _ hm) rfl) ?_
      refine uB (v := .rows 5 ([(getM ns[j] ms).getD zMacro].map cGMacro)) rfl rfl (uW rfl (by kernel_rfl)) ?_
      refine uE rfl rfl (vL cGMacro acc [(getM ns[j] ms).getD zMacro] (i := 0) rfl ekA hH rfl rfl rfl (.rows _) (fun y _ => one_cGMacro y) (by simp) (by simp only [List.length_cons, List.length_nil]; omega) (by decide) fun q' H' hH => ?_)
      refine uA 1 rfl trivial ?_
      refine WpOps.nil ?_
      refine WpC.region ?_
      refine uA 2 rfl (show -9223372036854775808 ≤ (j : Int) + 1 ∧ (j : Int) + 1 ≤ 9223372036854775807 from ⟨by omega, by omega⟩) ?_
      refine WpOps.nil ?_
      exact ⟨ns.length - (j + 1), by omega, j + 1, acc ++ [(getM ns[j] ms).getD zMacro], q', rfl, by omega, ⟨rfl, rfl, rfl, rfl, rfl, rfl, trivial⟩, hH, by rw [List.take_add_one, List.getElem?_eq_getElem hlt, List.map_append, ← hacc]; rfl⟩
    · have hge : j = ns.length := by
        have : ¬ ((j : Int) < (ns.length : Int)) := by simpa using hb
        omega
      rw [hge, List.take_length] at hacc
      subst hacc
      refine WpC.exit ?_
      refine uC ?_
      refine uA 4 rfl trivial ?_
      refine WpOps.nil ?_
      refine vJ (t := 3) (i := 0) hH rfl rfl (fun H' hH => ?_)
      obtain rfl : H' = H := hH
      refine WpC.ret ?_
      exact uU rfl rfl rfl ⟨_, _, Up.refl _ _, rfl, rfl⟩
  · have hm2 := mem_left he
    have hme : e ∈ ents := by simpa using hm2.1
    obtain ⟨s, hs⟩ : ∃ s, e.key = kS s := by
      have : e.key ∈ ents.map (·.key) := List.mem_map.2 ⟨e, hme, rfl⟩
      rw [h2, hk2] at this
      obtain ⟨s, _, hs⟩ := List.mem_map.1 this
      exact ⟨s, hs.symm⟩
    have hseen : ((seen.map (·.born)).toArray.push e.born) = ((seen ++ [e]).map (·.born)).toArray := by simp
    have hH2 := hH.reset_own (o' := .raw (.mapIter (some gm) clock ((seen.map (·.born)).toArray.push e.born) clock)) (uO _ _ _)
    rw [vT] at hH2
    have hHr2 := hH2.le r _ (uO _ _ _)
    have hHg2 := hH2.le gm _ ((uS _ _ (Ne.symm hgr2)).trans hgr)
    have hsh := left_shrinks ents.toArray (seen.map (·.born)).toArray e he
    have hlt := congrArg List.length so
    simp only [List.length_map] at hlt
    refine uA 1 rfl trivial ?_
    refine WpOps.nil ?_
    refine WpC.seq ?_
    refine WpC.condT rfl ?_
    refine WpC.skip ?_
    refine WpC.block ?_
    refine uC ?_
    refine uB (v := .tup [.lit (kS s), .lit e.val]) rfl rfl (by rw [← hs]; exact Exact.entryV (e := e) rfl rfl hHr2 hHg2 hme h5) ?_
    refine uA 2 rfl trivial ?_
    refine WpOps.nil ?_
    refine WpC.region ?_
    refine uA 2 rfl trivial ?_
    refine uB (v := .rows 1 ([s].map cS)) rfl rfl (uW rfl (by kernel_rfl)) ?_
    refine uE rfl rfl (vL cS out [s] (i := 0) rfl ekN hH2 rfl rfl rfl (.rows _) (fun y _ => one_cS y) (by simp) (by simp only [List.length_cons, List.length_nil]; omega) (by decide) fun p' H' hH3 => ?_)
    refine uA 1 rfl trivial ?_
    refine WpOps.nil ?_
    rw [hseen] at hH3 hsh
    refine ⟨_, hsh, seen ++ [e], out ++ [s], p', rfl, ⟨rfl, rfl, rfl, rfl, trivial⟩, hH3, ?_, ?_, by simp [so, hs], by rw [List.length_append]; simp only [List.length_cons, List.length_nil]; omega⟩
    · rw [List.nodup_append]
      refine ⟨sn, by simp, fun a ha b hb => ?_⟩
      rw [List.mem_singleton.1 hb]
      rintro rfl
      have : (seen.map (·.born)).toArray.contains a.born = true := by simp; exact ⟨a, ha, rfl⟩
      rw [hm2.2] at this; cases this
    · intro x hx
      rcases List.mem_append.1 hx with hx | hx
      · exact sm x hx
      · rw [List.mem_singleton.1 hx]; exact hme
theorem w_unit_run_names {H0 H : Heap} {g gm : Nat} {p : Option (Nat × Nat)} {run : GUnit_run} (hH : Holds H0 [.cell g 67 [(AV.rows 2 (List.map cGFile run.files)), .lit (.map (some gm)), .own (List.map cGTok run.told).length p, (iA run.includes)], .own 50 6 p (List.map cGTok run.told), .many (mapP gm run.macros)] H) {r : List (List UInt8) × List GMacro} (h : unit_run_names run = some r) :
  TCall Tryz.prog 116 [.lit (.pointer (some ⟨g, 0, none⟩))] H (fun v H' => ∃ b : Option (Nat × Nat), v = (.tup [(AV.rows 1 (List.map cS r.1)), (AV.rows 5 (List.map cGMacro r.2))]) ∧ Holds H0 [.cell g 67 [(AV.rows 2 (List.map cGFile run.files)), .lit (.map (some gm)), .own (List.map cGTok run.told).length b, (iA run.includes)], .own 50 6 b (List.map cGTok run.told), .many (mapP gm run.macros)] H') noE := by
 obtain ⟨hc, h⟩ := Sh.chk_some h
 obtain rfl := Sh.some_inj h
 refine (names_in hc (hH.cell (i := 0) rfl) (hH.mapAt (i := 2) rfl)).mono ?_ (fun _ _ h => h.elim)
 rintro _ _ ⟨rfl, rfl⟩
 exact ⟨p, rfl, hH⟩
end Go.Proofs.YtgmpeddopfnioaaGreatDoor
