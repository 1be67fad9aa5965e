/-
  Sets of names: one more, and all of them by rising bytes. (Numbers filled by a tool.)
-/
import Derived.Test.YtdbcklichbiihaaDoorMm
import Derived.Test.YtdbcklichbiihaaDoorPe
import Derived.Test.YtdbcklichbiihaaDoorChecked
import Derived.Test.YtdbcklichbiihaaDoorSort
import Derived.Sort.KeysCollected
set_option linter.unusedVariables false
set_option linter.unusedSimpArgs false
set_option maxRecDepth 20000
namespace Go.Proofs.YtdbcklichbiihaaDoor
open Go Go.Vc Go.Sh
theorem sorts : SortsS Tryd.prog 40 := fun blk off cap ss w h1 h2 h3 => Go.Proofs.AnyM.slices_Sort_string Go.Proofs.Tryd.mSort blk off cap ss w h1 h2 h3
theorem sorts_nil (w : World) : Calls Tryd.prog 40 #[.slice none 0 0] w fun e w' => e = .returned (.tuple #[]) ∧ w' = w := Go.Proofs.AnyM.slices_Sort_string_none Go.Proofs.Tryd.mSort none 0 w
attribute [local irreducible] WpC WpOps WpPi WpO Exact TCall VEnds Sh.loopS
theorem w_words_add {H0 : Heap} {g : Nat} {ks : List (List UInt8)} {l : List GTok} (hlen : l.length ≤ 9223372036854775806) (hg : H0 g = some (.map (kv ks))) : TCall Tryd.prog 27 [.lit (.map (some g)), .rows 6 (l.map cGTok)] H0 (fun v H' => v = .tup [] ∧ H' = H0.set g (.map (kv (addS ks l)))) noE := by
  refine TCall.body Tryd.func27 rfl rfl ?_
  have hix : ∀ i, (h : i < l.length) → Sh.ix l (i : Int) = some l[i] := fun i h => by rw [Sh.ix_nat]; exact List.getElem?_eq_getElem h
  refine WpC.seqR ?_
  refine WpOps.pn 2 rfl trivial ?_
  refine WpOps.at 7 (len_map _ _) ?_
  refine WpOps.pn 1 rfl trivial ?_
  refine WpOps.nil ?_
  refine WpC.block ?_
  refine WpC.loop (fun n env H => ∃ (i : Nat) (ks2 : List (List UInt8)), n = l.length - i ∧ i ≤ l.length ∧ knows env [(0, .lit (.map (some g))), (6, .rows 6 (l.map cGTok)), (7, iA l.length), (8, iA i)] ∧ addS ks2 (l.drop i) = addS ks l ∧ H = H0.set g (.map (kv ks2))) _ ⟨0, ks, rfl, Nat.zero_le _, ⟨rfl, rfl, rfl, rfl, trivial⟩, rfl, (by funext k; simp only [Heap.set]; split; (rename_i e; rw [e]; exact hg); rfl)⟩ ?_
  rintro n env H ⟨i, ks2, rfl, hi, hk, ha, rfl⟩
  rw [← hk.eq]
  refine WpC.seqR ?_
  refine WpOps.pn 1 rfl trivial ?_
  refine WpOps.nil ?_
  refine WpC.seq ?_
  refine WpC.condB rfl (fun hb => ?_) (fun hb => ?_)
  · have hlt : i < l.length := by simpa using hb
    obtain ⟨t, hte⟩ : ∃ t, t = l[i] := ⟨_, rfl⟩
    have ht := hix i hlt
    rw [List.drop_eq_getElem_cons hlt, addS, ← hte] at ha
    rw [← hte] at ht
    generalize hHc : H0.set g (.map (kv ks2)) = Hc
    have hgc : Hc g = some (.map (kv ks2)) := by rw [← hHc]; exact Heap.set_same _ _ _
    have hH : Holds Hc [] Hc := rfl
    refine WpC.skip ?_
    refine WpC.seq ?_
    refine WpC.block ?_
    refine WpC.seqR ?_
    refine WpOps.consE (v := .rop (cGTok t)) rfl rfl (Exact.ixr cGTok ht rfl rfl rfl rfl (by kernel_rfl) (by decide)) ?_
    refine WpOps.consE (v := .agg (cGTok t)) rfl rfl (Exact.load_rop rfl rfl rfl) ?_
    refine WpOps.consG rfl rfl (WpO.allocT (z := cGTok (GTok.mk 0 [] 0 0 0 false)) rfl rfl hH fun g2 H' hH => ?_)
    refine WpOps.consG rfl rfl (WpO.putT (cs' := cGTok t) (v := .agg (cGTok t)) rfl rfl hH (i := 0) rfl rfl rfl rfl rfl rfl rfl fun H' hH => ?_)
    refine WpOps.nil ?_
    refine WpC.ice (t := 5) (i := 0) hH rfl rfl (fun H' hH => ?_)
    obtain rfl : H' = Hc := hH
    refine WpC.seqR ?_
    refine WpOps.pn 1 rfl trivial ?_
    refine WpOps.consE (v := iA t.kind) rfl rfl (Exact.load_rop rfl rfl rfl) ?_
    refine WpOps.pn 1 rfl trivial ?_
    refine WpOps.nil ?_
    refine WpC.condB rfl (fun hb => ?_) (fun hb => ?_)
    · have h1 : t.kind = 1 := by simpa using hb
      rw [if_pos h1] at ha
      refine WpC.region ?_
      refine WpOps.pn 2 rfl trivial ?_
      refine WpOps.consE (v := sA t.text) rfl rfl (Exact.load_rop rfl rfl rfl) ?_
      refine WpOps.pn 1 rfl trivial ?_
      refine WpOps.consG rfl rfl (WpO.mapUpdate (kv := kS t.text) (v := .agg []) rfl Tryd.underlying43 rfl hgc rfl rfl (by simp only [isKey, Tryd.underlying9, kS]) (kv_ok Tryd.underlying9 ks2) ?_)
      refine WpOps.nil ?_
      refine WpC.region ?_
      refine WpOps.pn 2 rfl (show -9223372036854775808 ≤ (i : Int) + 1 ∧ (i : Int) + 1 ≤ 9223372036854775807 from ⟨by omega, by omega⟩) ?_
      refine WpOps.nil ?_
      exact ⟨l.length - (i + 1), by omega, i + 1, putS t.text ks2, rfl, by omega, ⟨rfl, rfl, rfl, rfl, trivial⟩, ha, by rw [mput_kv, ← hHc, Heap.set_set]⟩
    · have h1 : ¬ t.kind = 1 := by simpa using hb
      rw [if_neg h1] at ha
      refine WpC.skip ?_
      refine WpC.region ?_
      refine WpOps.pn 2 rfl (show -9223372036854775808 ≤ (i : Int) + 1 ∧ (i : Int) + 1 ≤ 9223372036854775807 from ⟨by omega, by omega⟩) ?_
      refine WpOps.nil ?_
      exact ⟨l.length - (i + 1), by omega, i + 1, ks2, rfl, by omega, ⟨rfl, rfl, rfl, rfl, trivial⟩, ha, hHc.symm⟩
  · have hge : i = l.length := by
      have : ¬ ((i : Int) < (l.length : Int)) := by simpa using hb
      omega
    rw [hge, List.drop_length, addS] at ha
    refine WpC.exit ?_
    exact VEnds.end0 rfl ⟨rfl, by rw [ha]⟩
theorem w_words_sorted {H0 : Heap} {g : Nat} {ks : List (List UInt8)} (hnd : ks.Nodup) (hroom : (ks.length + 1) * 16 ≤ 140737488355328) (hg : H0 g = some (.map (kv ks))) : TCall Tryd.prog 29 [.lit (.map (some g))] H0 (fun v H' => v = .rows 1 ((sortS ks).map cS) ∧ H' = H0) noE := by
  refine TCall.up (TCall.body Tryd.func29 rfl rfl ?_)
  refine WpC.openM hg (fun ents clock h2 hv h4 h5 => ?_)
  have ekS : ElemOk Tryd.prog 22 9 1 16 := ElemOk.of (by kernel_rfl)
  generalize hR : H0.set g (.raw (.map ents.toArray clock)) = Hr
  have hgr : Hr g = some (.raw (.map ents.toArray clock)) := by rw [← hR]; exact Heap.set_same _ _ _
  have hlen : ents.length = ks.length := by have := congrArg List.length h2; simpa using this
  refine WpC.seqR ?_
  refine WpOps.pn 1 rfl trivial ?_
  refine WpOps.nil ?_
  refine WpC.seqR ?_
  refine WpOps.pn 1 rfl trivial ?_
  refine WpOps.nil ?_
  refine WpC.seq ?_
  refine WpC.seqR ?_
  refine WpOps.pn 1 rfl trivial ?_
  refine WpOps.consG rfl rfl (WpO.rangeM rfl Tryd.underlying43 rfl hgr fun r hr => ?_)
  refine WpOps.nil ?_
  have hgr2 : r ≠ g := by rintro rfl; rw [hgr] at hr; cases hr
  have hH := (show Holds (Hr.set r (.raw (.mapIter (some g) clock #[] clock))) [] _ from rfl).nil 9 1
  refine WpC.block ?_
  refine WpC.loop (fun n env H => ∃ (seen : List MapEntry) (out : List (List UInt8)) (p : Option (Nat × Nat)), n = (leftOf ents.toArray (seen.map (·.born)).toArray).size ∧ knows env [(3, .own (out.map cS).length p), (6, .lit (.pointer (some ⟨r, 0, none⟩)))] ∧ Holds (Hr.set r (.raw (.mapIter (some g) clock (seen.map (·.born)).toArray clock))) [.own 9 1 p (out.map cS)] H ∧ seen.Nodup ∧ (∀ e ∈ seen, e ∈ ents) ∧ out.map kS = seen.map (·.key) ∧ seen.length + (leftOf ents.toArray (seen.map (·.born)).toArray).size ≤ ents.length) _ ⟨[], [], none, rfl, ⟨rfl, rfl, trivial⟩, hH, .nil, (fun e he => by cases he), rfl, by unfold leftOf; have := Array.size_filter_le (p := fun e : MapEntry => !(([] : List MapEntry).map (·.born)).toArray.contains e.born) (xs := ents.toArray); simp at this ⊢; first | done | exact this⟩ ?_
  rintro n env H ⟨seen, out, p, rfl, hk, hH, sn, sm, so, sl⟩
  rw [← hk.eq]
  have hHr := hH.le r _ (Heap.set_same _ _ _)
  have hHg := hH.le g _ ((Heap.set_ne _ _ (Ne.symm hgr2)).trans hgr)
  refine WpC.seqR ?_
  refine WpOps.consG rfl rfl (WpO.nextM (r := r) (bm := g) (since := clock) (c0 := clock) rfl rfl hHr hHg (fun x hx => h4 x (by simpa using hx)) (Nat.le_refl _) (fun h0 => ?_) (fun e he => ?_))
  · refine WpOps.pn 1 rfl trivial ?_
    refine WpOps.nil ?_
    refine WpC.seq ?_
    refine WpC.condF rfl ?_
    refine WpC.exit ?_
    have hall := all_seen ents.toArray _ h0
    have hmem : ∀ x ∈ ents, x ∈ seen := fun x hx => by
      have := hall x (by simpa using hx)
      simp only [List.contains_toArray, List.contains_iff_mem, List.mem_map] at this
      obtain ⟨e, he, hb⟩ := this
      rw [born_inj h5 hx (sm e he) hb.symm]; exact he
    have ndE : ents.Nodup := List.Pairwise.of_map (·.born) (fun a b h e => h (by rw [e])) h5
    have hperm : seen.Perm ents := (List.perm_ext_iff_of_nodup sn ndE).2 fun a => ⟨sm a, hmem a⟩
    have hkp : (out.map kS).Perm (ks.map kS) := by rw [so, ← h2]; exact hperm.map _
    have ho : out.Perm ks := by
      have h6 := hkp.map (fun v => match v with | .string ⟨⟨l⟩⟩ => l | _ => ([] : List UInt8))
      rw [List.map_map, List.map_map] at h6
      have e6 : ∀ l : List (List UInt8), l.map ((fun v => match v with | .string ⟨⟨l⟩⟩ => l | _ => ([] : List UInt8)) ∘ kS) = l := fun l => by
        induction l with
        | nil => rfl
        | cons x l ih => rw [List.map_cons, ih]; rfl
      rwa [e6, e6] at h6
    have hsort : sortS out = sortS ks := mergeSort_of_perm ho
    have hlo := ho.length_eq
    have hsz : out.length < 4611686018427387904 := by omega
    have hBg : (Hr.set r (.raw (.mapIter (some g) clock (seen.map (·.born)).toArray clock))) g = some (.raw (.map ents.toArray clock)) := (Heap.set_ne _ _ (Ne.symm hgr2)).trans hgr
    have hBl : H0.le ((Hr.set r (.raw (.mapIter (some g) clock (seen.map (·.born)).toArray clock))).set g (.map (kv ks))) := fun q o hq => by
      by_cases e1 : q = g
      · subst e1; rw [Heap.set_same]; rw [hg] at hq; exact hq
      · rw [Heap.set_ne _ _ e1]
        have e2 : q ≠ r := by
          rintro rfl
          have : Hr q = some o := by rw [← hR, Heap.set_ne _ _ e1]; exact hq
          rw [hr] at this; cases this
        rw [Heap.set_ne _ _ e2, ← hR, Heap.set_ne _ _ e1]; exact hq
    generalize hBe : Hr.set r (.raw (.mapIter (some g) clock (seen.map (·.born)).toArray clock)) = B at *
    have hls : ((sortS out).map cS).length = (out.map cS).length := by simp [sortS]
    refine WpC.seqR ?_
    refine WpOps.pn 1 rfl trivial ?_
    obtain ⟨H1, h1, hown⟩ := hH
    have h1 : H1 = B := h1
    subst h1
    rcases Own.inv hown with ⟨rfl, e1, rfl⟩ | ⟨g3, c3, rfl, hg3, rfl⟩
    · have e2 : out = [] := by simpa using e1
      subst e2
      refine WpOps.consG rfl rfl (WpO.call rfl rfl rfl ((tcall_sort_nil sorts_nil).mono (fun v H2 hq => ?_) (fun _ _ h => h.elim)))
      obtain ⟨rfl, rfl⟩ := hq
      refine WpOps.nil ?_
      refine WpC.seqR ?_
      refine WpOps.pn 2 rfl trivial ?_
      refine WpOps.nil ?_
      have hH4 := (show Holds H2 [] H2 from rfl).nil 9 1
      refine WpC.freeze (t := 2) (i := 0) hH4 rfl rfl (fun H' hH => ?_)
      obtain rfl : H' = H2 := hH
      refine WpC.closeM hBg h2 hv h4 h5 ?_
      refine WpC.ret ?_
      exact VEnds.ret1 rfl rfl ⟨_, _, Up.drop hBl _, by rw [← hsort]; simp [sortS], rfl⟩
    · have ht := tcall_sort (c := c3) (t := 9) (g := g3) (ss := out) (H := H1.set g3 (.row 9 1 (out.map cS) c3)) sorts (Heap.set_same _ _ _) hsz
      rw [show out.length = (out.map cS).length from (List.length_map _).symm] at ht
      refine WpOps.consG rfl rfl (WpO.call rfl rfl rfl (ht.mono (fun v H2 hq => ?_) (fun _ _ h => h.elim)))
      obtain ⟨rfl, rfl⟩ := hq
      rw [Heap.set_set]
      refine WpOps.nil ?_
      refine WpC.seqR ?_
      refine WpOps.pn 2 rfl trivial ?_
      refine WpOps.nil ?_
      have hH4 := (show Holds H1 [] H1 from rfl).newRow (t := 9) (size := 1) (es := (sortS out).map cS) (c := c3) hg3
      refine WpC.at 2 (v := .own ((sortS out).map cS).length (some (g3, c3))) (by rw [hls]; rfl) ?_
      refine WpC.freeze (t := 2) (i := 0) hH4 rfl rfl (fun H' hH => ?_)
      obtain rfl : H' = H1 := hH
      refine WpC.closeM hBg h2 hv h4 h5 ?_
      refine WpC.ret ?_
      exact VEnds.ret1 rfl rfl ⟨_, _, Up.drop hBl _, by rw [← hsort], rfl⟩
  · have hm := mem_left he
    have hme : e ∈ ents := by simpa using hm.1
    obtain ⟨s, hs⟩ : ∃ s, e.key = kS s := by
      have : e.key ∈ ents.map (·.key) := List.mem_map.2 ⟨e, hme, rfl⟩
      rw [h2] at this
      obtain ⟨s, _, hs⟩ := List.mem_map.1 this
      exact ⟨s, hs.symm⟩
    have hve := hv e hme
    obtain ⟨ek, ev, eb⟩ := e
    simp only at hs hve
    subst hs
    subst hve
    generalize hen : (⟨kS s, .agg #[], eb⟩ : MapEntry) = e at *
    have hek : e.key = kS s := by rw [← hen]
    have hev : e.val = .agg #[] := by rw [← hen]
    have hseen : ((seen.map (·.born)).toArray.push e.born) = ((seen ++ [e]).map (·.born)).toArray := by simp
    have hH2 := hH.reset_own (o' := .raw (.mapIter (some g) clock ((seen.map (·.born)).toArray.push e.born) clock)) (Heap.set_same _ _ _)
    rw [Heap.set_set] at hH2
    have hHr2 := hH2.le r _ (Heap.set_same _ _ _)
    have hHg2 := hH2.le g _ ((Heap.set_ne _ _ (Ne.symm hgr2)).trans hgr)
    have hsh := left_shrinks ents.toArray (seen.map (·.born)).toArray e he
    rw [hek, hev]
    refine WpOps.pn 1 rfl trivial ?_
    refine WpOps.nil ?_
    refine WpC.seq ?_
    refine WpC.condT rfl ?_
    refine WpC.skip ?_
    refine WpC.block ?_
    refine WpC.seqR ?_
    refine WpOps.consE (v := .tup [.lit (kS s), .lit (.agg #[])]) rfl rfl (by rw [← hek, ← hev]; exact Exact.entryM (e := e) rfl rfl hHr2 hHg2 (by simpa using hme) (by simpa using h5)) ?_
    refine WpOps.pn 2 rfl trivial ?_
    refine WpOps.nil ?_
    refine WpC.region ?_
    refine WpOps.pn 2 rfl trivial ?_
    refine WpOps.consE (v := .rows 1 ([s].map cS)) rfl rfl (Exact.litSlice rfl (by kernel_rfl)) ?_
    refine WpOps.consG rfl rfl (WpO.pushT cS out [s] (i := 0) rfl ekS hH2 rfl rfl rfl (.rows _) (fun y _ => one_cS y) (by simp) (by have := congrArg List.length so; simp only [List.length_map] at this; simp only [List.length_cons, List.length_nil]; omega) (by decide) fun p' H' hH3 => ?_)
    refine WpOps.pn 1 rfl trivial ?_
    refine WpOps.nil ?_
    rw [hseen] at hH3 hsh
    refine ⟨_, hsh, seen ++ [e], out ++ [s], p', rfl, ⟨rfl, rfl, trivial⟩, hH3, ?_, ?_, by simp [so, hek], by rw [List.length_append]; simp only [List.length_cons, List.length_nil]; omega⟩
    · rw [List.nodup_append]
      refine ⟨sn, by simp, fun a ha b hb => ?_⟩
      rw [List.mem_singleton.1 hb]
      rintro rfl
      have : (seen.map (·.born)).toArray.contains a.born = true := by simp; exact ⟨a, ha, rfl⟩
      rw [hm.2] at this; cases this
    · intro x hx
      rcases List.mem_append.1 hx with hx | hx
      · exact sm x hx
      · rw [List.mem_singleton.1 hx]; exact hme
end Go.Proofs.YtdbcklichbiihaaDoor
