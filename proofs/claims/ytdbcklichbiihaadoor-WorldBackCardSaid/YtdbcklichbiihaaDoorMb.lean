/-
  What files define and ask for: world's functions over sets of names. (Numbers filled by a tool.)
-/
import Derived.Test.YtdbcklichbiihaaDoorMa
import Derived.Test.YtdbcklichbiihaaDoorCl
import Derived.Test.YtdbcklichbiihaaDoorSp
import Derived.Test.YtdbcklichbiihaaDoorF0
import Derived.Test.YtdbcklichbiihaaDoorWb
set_option linter.unusedVariables false
set_option linter.unusedSimpArgs false
set_option maxRecDepth 20000
namespace Go.Proofs.YtdbcklichbiihaaDoor
open Go Go.Vc Go.Sh
theorem Heap.set_self {H : Heap} {g : Nat} {o : AObj} (h : H g = some o) : H.set g o = H := by
  funext q; simp only [Heap.set]; split
  · rename_i e; rw [e, h]
  · rfl
theorem set_none {H : Heap} {g k : Nat} {o : AObj} (h : (H.set g o) k = none) : k ≠ g ∧ H k = none := by
  have hne : k ≠ g := by rintro rfl; rw [Heap.set_same] at h; cases h
  exact ⟨hne, by rwa [Heap.set_ne _ _ hne] at h⟩
theorem Up.rop1 {H H' : Heap} {v u : AV} (up : Up H v H' u) : Up H (.rop [v]) H' (.rop [u]) := ⟨up.1, fun w x hr hx => by
  obtain ⟨a, us, rfl, hvs, hc, hb⟩ := hx.rop_inv
  obtain ⟨u1, us', rfl, h1, h2⟩ := hvs.cons_inv
  obtain rfl := h2.nil_inv
  have h3 := VRs.cons (up.2 w u1 hr h1) .nil
  exact .rop [u1] h3.1 hc h3.2 (fun hne => ⟨(hb hne).1, fun hd => (hb hne).2 (up.1.dom hd)⟩)⟩
theorem own_up2 {H0 H1 H : Heap} {t size n : Nat} {es : List (List AV)} {p : Option (Nat × Nat)} (h : Vc.Own H1 t size es n p H) (hl : H0.le H1) : Up H (.own n p) H0 (.rows size es) := ⟨Heap.le_trans hl h.up.1, fun w x hr hx => (h.up.2 w x hr hx).evol (Evol.drop w hl)⟩
attribute [local irreducible] WpC WpOps WpPi WpO Exact TCall VEnds Sh.loopS
theorem w_words_sortedO {H0 : Heap} {g : Nat} {ks : List (List UInt8)} (hnd : ks.Nodup) (hroom : (ks.length + 1) * 16 ≤ 140737488355328) (hg : H0 g = some (.map (kv ks))) : TCall Tryd.prog 29 [.lit (.map (some g))] H0 (fun v H' => ∃ q H1', H0.le H1' ∧ Vc.Own H1' 9 1 ((sortS ks).map cS) ((sortS ks).map cS).length q H' ∧ v = .own ((sortS ks).map cS).length q) noE := by
  refine TCall.body Tryd.func29 rfl rfl ?_
  refine WpC.openM hg (fun ents clock h2 hv h4 h5 => ?_)
  have ekS : ElemOk Tryd.prog 22 9 1 16 := ElemOk.of (by kernel_rfl)
  generalize hR : H0.set g (.raw (.map ents.toArray clock)) = Hr
  have hgr : Hr g = some (.raw (.map ents.toArray clock)) := by rw [← hR]; exact Heap.set_same _ _ _
  have hlen : ents.length = ks.length := by have := congrArg List.length h2; simpa using this
  refine WpC.seqR ?_
  refine WpOps.pn 1 rfl trivial ?_
  refine WpOps.nil ?_
  refine WpC.seqR ?_
  refine WpOps.pn 1 rfl trivial ?_
  refine WpOps.nil ?_
  refine WpC.seq ?_
  refine WpC.seqR ?_
  refine WpOps.pn 1 rfl trivial ?_
  refine WpOps.consG rfl rfl (WpO.rangeM rfl Tryd.underlying43 rfl hgr fun r hr => ?_)
  refine WpOps.nil ?_
  have hgr2 : r ≠ g := by rintro rfl; rw [hgr] at hr; cases hr
  have hH := (show Holds (Hr.set r (.raw (.mapIter (some g) clock #[] clock))) [] _ from rfl).nil 9 1
  refine WpC.block ?_
  refine WpC.loop (fun n env H => ∃ (seen : List MapEntry) (out : List (List UInt8)) (p : Option (Nat × Nat)), n = (leftOf ents.toArray (seen.map (·.born)).toArray).size ∧ knows env [(3, .own (out.map cS).length p), (6, .lit (.pointer (some ⟨r, 0, none⟩)))] ∧ Holds (Hr.set r (.raw (.mapIter (some g) clock (seen.map (·.born)).toArray clock))) [.own 9 1 p (out.map cS)] H ∧ seen.Nodup ∧ (∀ e ∈ seen, e ∈ ents) ∧ out.map kS = seen.map (·.key) ∧ seen.length + (leftOf ents.toArray (seen.map (·.born)).toArray).size ≤ ents.length) _ ⟨[], [], none, rfl, ⟨rfl, rfl, trivial⟩, hH, .nil, (fun e he => by cases he), rfl, by unfold leftOf; have := Array.size_filter_le (p := fun e : MapEntry => !(([] : List MapEntry).map (·.born)).toArray.contains e.born) (xs := ents.toArray); simp at this ⊢; first | done | exact this⟩ ?_
  rintro n env H ⟨seen, out, p, rfl, hk, hH, sn, sm, so, sl⟩
  rw [← hk.eq]
  have hHr := hH.le r _ (Heap.set_same _ _ _)
  have hHg := hH.le g _ ((Heap.set_ne _ _ (Ne.symm hgr2)).trans hgr)
  refine WpC.seqR ?_
  refine WpOps.consG rfl rfl (WpO.nextM (r := r) (bm := g) (since := clock) (c0 := clock) rfl rfl hHr hHg (fun x hx => h4 x (by simpa using hx)) (Nat.le_refl _) (fun h0 => ?_) (fun e he => ?_))
  · refine WpOps.pn 1 rfl trivial ?_
    refine WpOps.nil ?_
    refine WpC.seq ?_
    refine WpC.condF rfl ?_
    refine WpC.exit ?_
    have hall := all_seen ents.toArray _ h0
    have hmem : ∀ x ∈ ents, x ∈ seen := fun x hx => by
      have := hall x (by simpa using hx)
      simp only [List.contains_toArray, List.contains_iff_mem, List.mem_map] at this
      obtain ⟨e, he, hb⟩ := this
      rw [born_inj h5 hx (sm e he) hb.symm]; exact he
    have ndE : ents.Nodup := List.Pairwise.of_map (·.born) (fun a b h e => h (by rw [e])) h5
    have hperm : seen.Perm ents := (List.perm_ext_iff_of_nodup sn ndE).2 fun a => ⟨sm a, hmem a⟩
    have hkp : (out.map kS).Perm (ks.map kS) := by rw [so, ← h2]; exact hperm.map _
    have ho : out.Perm ks := by
      have h6 := hkp.map (fun v => match v with | .string ⟨⟨l⟩⟩ => l | _ => ([] : List UInt8))
      rw [List.map_map, List.map_map] at h6
      have e6 : ∀ l : List (List UInt8), l.map ((fun v => match v with | .string ⟨⟨l⟩⟩ => l | _ => ([] : List UInt8)) ∘ kS) = l := fun l => by
        induction l with
        | nil => rfl
        | cons x l ih => rw [List.map_cons, ih]; rfl
      rwa [e6, e6] at h6
    have hsort : sortS out = sortS ks := mergeSort_of_perm ho
    have hlo := ho.length_eq
    have hsz : out.length < 4611686018427387904 := by omega
    have hBg : (Hr.set r (.raw (.mapIter (some g) clock (seen.map (·.born)).toArray clock))) g = some (.raw (.map ents.toArray clock)) := (Heap.set_ne _ _ (Ne.symm hgr2)).trans hgr
    have hBl : H0.le ((Hr.set r (.raw (.mapIter (some g) clock (seen.map (·.born)).toArray clock))).set g (.map (kv ks))) := fun q o hq => by
      by_cases e1 : q = g
      · subst e1; rw [Heap.set_same]; rw [hg] at hq; exact hq
      · rw [Heap.set_ne _ _ e1]
        have e2 : q ≠ r := by
          rintro rfl
          have : Hr q = some o := by rw [← hR, Heap.set_ne _ _ e1]; exact hq
          rw [hr] at this; cases this
        rw [Heap.set_ne _ _ e2, ← hR, Heap.set_ne _ _ e1]; exact hq
    generalize hBe : Hr.set r (.raw (.mapIter (some g) clock (seen.map (·.born)).toArray clock)) = B at *
    have hls : ((sortS out).map cS).length = (out.map cS).length := by simp [sortS]
    refine WpC.seqR ?_
    refine WpOps.pn 1 rfl trivial ?_
    obtain ⟨H1, h1, hown⟩ := hH
    have h1 : H1 = B := h1
    subst h1
    rcases Own.inv hown with ⟨rfl, e1, rfl⟩ | ⟨g3, c3, rfl, hg3, rfl⟩
    · have e2 : out = [] := by simpa using e1
      subst e2
      refine WpOps.consG rfl rfl (WpO.call rfl rfl rfl ((tcall_sort_nil sorts_nil).mono (fun v H2 hq => ?_) (fun _ _ h => h.elim)))
      obtain ⟨rfl, rfl⟩ := hq
      refine WpOps.nil ?_
      refine WpC.seqR ?_
      refine WpOps.pn 2 rfl trivial ?_
      refine WpOps.nil ?_
      refine WpC.closeM hBg h2 hv h4 h5 ?_
      refine WpC.ret ?_
      have e8 : sortS ks = [] := by rw [← hsort]; simp [sortS]
      exact VEnds.ret1 rfl rfl (by rw [e8]; exact ⟨none, _, hBl, Vc.Own.nil rfl, rfl⟩)
    · have ht := tcall_sort (c := c3) (t := 9) (g := g3) (ss := out) (H := H1.set g3 (.row 9 1 (out.map cS) c3)) sorts (Heap.set_same _ _ _) hsz
      rw [show out.length = (out.map cS).length from (List.length_map _).symm] at ht
      refine WpOps.consG rfl rfl (WpO.call rfl rfl rfl (ht.mono (fun v H2 hq => ?_) (fun _ _ h => h.elim)))
      obtain ⟨rfl, rfl⟩ := hq
      rw [Heap.set_set]
      refine WpOps.nil ?_
      refine WpC.seqR ?_
      refine WpOps.pn 2 rfl trivial ?_
      refine WpOps.nil ?_
      have hne : g ≠ g3 := by rintro rfl; rw [hg3] at hBg; cases hBg
      refine WpC.at 2 (v := .own ((sortS out).map cS).length (some (g3, c3))) (by rw [hls]; rfl) ?_
      refine WpC.closeM (g := g) ((Heap.set_ne _ _ hne).trans hBg) h2 hv h4 h5 ?_
      refine WpC.heap (Heap.set_comm (Ne.symm hne) _ _) ?_
      refine WpC.ret ?_
      exact VEnds.ret1 rfl rfl (by rw [hsort]; exact ⟨some (g3, c3), _, hBl, Vc.Own.row g3 c3 ((Heap.set_ne _ _ (Ne.symm hne)).trans hg3) rfl, rfl⟩)
  · have hm := mem_left he
    have hme : e ∈ ents := by simpa using hm.1
    obtain ⟨s, hs⟩ : ∃ s, e.key = kS s := by
      have : e.key ∈ ents.map (·.key) := List.mem_map.2 ⟨e, hme, rfl⟩
      rw [h2] at this
      obtain ⟨s, _, hs⟩ := List.mem_map.1 this
      exact ⟨s, hs.symm⟩
    have hve := hv e hme
    obtain ⟨ek, ev, eb⟩ := e
    simp only at hs hve
    subst hs
    subst hve
    generalize hen : (⟨kS s, .agg #[], eb⟩ : MapEntry) = e at *
    have hek : e.key = kS s := by rw [← hen]
    have hev : e.val = .agg #[] := by rw [← hen]
    have hseen : ((seen.map (·.born)).toArray.push e.born) = ((seen ++ [e]).map (·.born)).toArray := by simp
    have hH2 := hH.reset_own (o' := .raw (.mapIter (some g) clock ((seen.map (·.born)).toArray.push e.born) clock)) (Heap.set_same _ _ _)
    rw [Heap.set_set] at hH2
    have hHr2 := hH2.le r _ (Heap.set_same _ _ _)
    have hHg2 := hH2.le g _ ((Heap.set_ne _ _ (Ne.symm hgr2)).trans hgr)
    have hsh := left_shrinks ents.toArray (seen.map (·.born)).toArray e he
    rw [hek, hev]
    refine WpOps.pn 1 rfl trivial ?_
    refine WpOps.nil ?_
    refine WpC.seq ?_
    refine WpC.condT rfl ?_
    refine WpC.skip ?_
    refine WpC.block ?_
    refine WpC.seqR ?_
    refine WpOps.consE (v := .tup [.lit (kS s), .lit (.agg #[])]) rfl rfl (by rw [← hek, ← hev]; exact Exact.entryM (e := e) rfl rfl hHr2 hHg2 (by simpa using hme) (by simpa using h5)) ?_
    refine WpOps.pn 2 rfl trivial ?_
    refine WpOps.nil ?_
    refine WpC.region ?_
    refine WpOps.pn 2 rfl trivial ?_
    refine WpOps.consE (v := .rows 1 ([s].map cS)) rfl rfl (Exact.litSlice rfl (by kernel_rfl)) ?_
    refine WpOps.consG rfl rfl (WpO.pushT cS out [s] (i := 0) rfl ekS hH2 rfl rfl rfl (.rows _) (fun y _ => one_cS y) (by simp) (by have := congrArg List.length so; simp only [List.length_map] at this; simp only [List.length_cons, List.length_nil]; omega) (by decide) fun p' H' hH3 => ?_)
    refine WpOps.pn 1 rfl trivial ?_
    refine WpOps.nil ?_
    rw [hseen] at hH3 hsh
    refine ⟨_, hsh, seen ++ [e], out ++ [s], p', rfl, ⟨rfl, rfl, trivial⟩, hH3, ?_, ?_, by simp [so, hek], by rw [List.length_append]; simp only [List.length_cons, List.length_nil]; omega⟩
    · rw [List.nodup_append]
      refine ⟨sn, by simp, fun a ha b hb => ?_⟩
      rw [List.mem_singleton.1 hb]
      rintro rfl
      have : (seen.map (·.born)).toArray.contains a.born = true := by simp; exact ⟨a, ha, rfl⟩
      rw [hm.2] at this; cases this
    · intro x hx
      rcases List.mem_append.1 hx with hx | hx
      · exact sm x hx
      · rw [List.mem_singleton.1 hx]; exact hme

theorem w_known1 {H : Heap} {gc g : Nat} {ks : List (List UInt8)} {x : GLine} (hx : x.toks.length ≤ 9223372036854775806) (hc : H gc = some (.cells 43 [.lit (.map (some g))])) (hg : H g = some (.map (kv ks))) : TCall Tryd.prog 42 [.agg (cGLine x), (.lit (.pointer (some ⟨gc, 0, none⟩)))] H (fun v H' => v = .tup [] ∧ H' = H.set g (.map (kv (knownF ks x)))) noE := by
  refine TCall.body Tryd.func42 rfl rfl ?_
  have hH : Holds H [] H := rfl
  refine WpC.seqR ?_
  refine WpOps.consG rfl rfl (WpO.boxT (v := .agg (cGLine x)) rfl rfl hH fun g2 H' hH => ?_)
  refine WpOps.nil ?_
  refine WpC.ice (t := 2) (i := 0) (cs := cGLine x) hH rfl rfl (fun H' hH => ?_)
  obtain rfl : H' = H := hH
  refine WpC.seqR ?_
  refine WpOps.pn 1 rfl trivial ?_
  refine WpOps.consE (v := iA x.kind) rfl rfl (Exact.load_rop rfl rfl rfl) ?_
  refine WpOps.pn 2 rfl trivial ?_
  refine WpOps.split 6 rfl (fun hb => ?_) (fun hb => ?_)
  · have hk : x.kind = 8 ∨ x.kind = 9 := .inl (by simpa using hb)
    refine WpOps.pn 5 rfl trivial ?_
    refine WpOps.pn 1 rfl trivial ?_
    refine WpOps.consE (v := .rows 6 (x.toks.map cGTok)) rfl rfl (Exact.load_rop rfl rfl rfl) ?_
    refine WpOps.pn 1 rfl trivial ?_
    refine WpOps.at 14 (len_map _ _) ?_
    refine WpOps.pn 2 rfl trivial ?_
    refine WpOps.nil ?_
    refine WpC.condB rfl (fun hb2 => ?_) (fun hb2 => ?_)
    · have hl : 0 < x.toks.length := by
        have : (0 : Int) < (x.toks.length : Int) := by simpa using hb2
        omega
      have e1 : knownF ks x = addS ks (x.toks.take 1) := if_pos ⟨hk, hl⟩
      refine WpC.draw [.S, .I, .I, .I, .E] [0, 1, 2, 3, 4] (by kernel_rfl) (by kernel_rfl) ?_
      refine WpPi.consS (v := .lit (.map (some g))) rfl rfl rfl rfl (Exact.load rfl rfl hc rfl rfl) ?_
      refine WpPi.pn 1 rfl trivial ?_
      refine WpPi.consI (v := .rows 6 (x.toks.map cGTok)) rfl rfl rfl rfl (fun _ => Exact.load_rop rfl rfl rfl) ?_
      refine WpPi.pn 1 rfl (show True ∧ 0 ≤ (1 : Int) ∧ True ∧ (1 : Int).toNat ≤ (List.map cGTok x.toks).length ∧ True from ⟨trivial, (by omega), trivial, (by simp only [List.length_map]; omega), trivial⟩) ?_
      refine WpPi.at 20 (rows_take 6 cGTok x.toks _) ?_
      refine WpPi.consE rfl rfl rfl rfl (WpO.call rfl rfl rfl ((w_words_add (l := x.toks.take (1 : Int).toNat) (by rw [List.length_take]; omega) hg).mono (fun v H2 hq => ?_) (fun _ _ h => h.elim)))
      obtain ⟨rfl, rfl⟩ := hq
      refine WpPi.nil ?_
      exact VEnds.end0 rfl ⟨rfl, by rw [e1]; rfl⟩
    · have e1 : knownF ks x = ks := if_neg (fun h => by
        have : ¬ (0 : Int) < (x.toks.length : Int) := by simpa using hb2
        omega)
      refine WpC.skip ?_
      exact VEnds.end0 rfl ⟨rfl, by rw [e1, Heap.set_self hg]⟩
  · have h8 : ¬ x.kind = 8 := by simpa using hb
    refine WpOps.pn 1 rfl trivial ?_
    refine WpOps.consE (v := iA x.kind) rfl rfl (Exact.load_rop rfl rfl rfl) ?_
    refine WpOps.pn 3 rfl trivial ?_
    refine WpOps.split 11 rfl (fun hb => ?_) (fun hb => ?_)
    · have hk : x.kind = 8 ∨ x.kind = 9 := .inr (by simpa using hb)
      refine WpOps.pn 1 rfl trivial ?_
      refine WpOps.consE (v := .rows 6 (x.toks.map cGTok)) rfl rfl (Exact.load_rop rfl rfl rfl) ?_
      refine WpOps.pn 1 rfl trivial ?_
      refine WpOps.at 14 (len_map _ _) ?_
      refine WpOps.pn 2 rfl trivial ?_
      refine WpOps.nil ?_
      refine WpC.condB rfl (fun hb2 => ?_) (fun hb2 => ?_)
      · have hl : 0 < x.toks.length := by
          have : (0 : Int) < (x.toks.length : Int) := by simpa using hb2
          omega
        have e1 : knownF ks x = addS ks (x.toks.take 1) := if_pos ⟨hk, hl⟩
        refine WpC.draw [.S, .I, .I, .I, .E] [0, 1, 2, 3, 4] (by kernel_rfl) (by kernel_rfl) ?_
        refine WpPi.consS (v := .lit (.map (some g))) rfl rfl rfl rfl (Exact.load rfl rfl hc rfl rfl) ?_
        refine WpPi.pn 1 rfl trivial ?_
        refine WpPi.consI (v := .rows 6 (x.toks.map cGTok)) rfl rfl rfl rfl (fun _ => Exact.load_rop rfl rfl rfl) ?_
        refine WpPi.pn 1 rfl (show True ∧ 0 ≤ (1 : Int) ∧ True ∧ (1 : Int).toNat ≤ (List.map cGTok x.toks).length ∧ True from ⟨trivial, (by omega), trivial, (by simp only [List.length_map]; omega), trivial⟩) ?_
        refine WpPi.at 20 (rows_take 6 cGTok x.toks _) ?_
        refine WpPi.consE rfl rfl rfl rfl (WpO.call rfl rfl rfl ((w_words_add (l := x.toks.take (1 : Int).toNat) (by rw [List.length_take]; omega) hg).mono (fun v H2 hq => ?_) (fun _ _ h => h.elim)))
        obtain ⟨rfl, rfl⟩ := hq
        refine WpPi.nil ?_
        exact VEnds.end0 rfl ⟨rfl, by rw [e1]; rfl⟩
      · have e1 : knownF ks x = ks := if_neg (fun h => by
          have : ¬ (0 : Int) < (x.toks.length : Int) := by simpa using hb2
          omega)
        refine WpC.skip ?_
        exact VEnds.end0 rfl ⟨rfl, by rw [e1, Heap.set_self hg]⟩
    · have h9 : ¬ x.kind = 9 := by simpa using hb
      refine WpOps.pn 5 rfl trivial ?_
      refine WpOps.nil ?_
      have e1 : knownF ks x = ks := if_neg (fun h => by omega)
      refine WpC.condF rfl ?_
      refine WpC.skip ?_
      exact VEnds.end0 rfl ⟨rfl, by rw [e1, Heap.set_self hg]⟩
theorem w_names1 {H : Heap} {gc g : Nat} {ks : List (List UInt8)} {x : GLine} (hx : x.toks.length ≤ 9223372036854775806) (hc : H gc = some (.cells 43 [.lit (.map (some g))])) (hg : H g = some (.map (kv ks))) : TCall Tryd.prog 26 [.agg (cGLine x), (.lit (.pointer (some ⟨gc, 0, none⟩)))] H (fun v H' => v = .tup [] ∧ H' = H.set g (.map (kv (askedF ks x)))) noE := by
  refine TCall.body Tryd.func26 rfl rfl ?_
  have hH : Holds H [] H := rfl
  refine WpC.seqR ?_
  refine WpOps.consG rfl rfl (WpO.boxT (v := .agg (cGLine x)) rfl rfl hH fun g2 H' hH => ?_)
  refine WpOps.nil ?_
  refine WpC.ice (t := 2) (i := 0) (cs := cGLine x) hH rfl rfl (fun H' hH => ?_)
  obtain rfl : H' = H := hH
  refine WpC.seqR ?_
  refine WpOps.pn 1 rfl trivial ?_
  refine WpOps.consE (v := iA x.kind) rfl rfl (Exact.load_rop rfl rfl rfl) ?_
  refine WpOps.nil ?_
  refine WpC.block ?_
  refine WpC.seq ?_
  refine WpC.seqR ?_
  refine WpOps.pn 1 rfl trivial ?_
  refine WpOps.split 6 rfl (fun hb => ?_) (fun hb => ?_)
  · have hk2 : x.kind = 2 := by simpa using hb
    refine WpOps.pn 1 rfl trivial ?_
    refine WpOps.nil ?_
    refine WpC.condT rfl ?_
    refine WpC.skip ?_
    have e1 : askedF ks x = addS ks x.toks := if_pos (by omega)
    refine WpC.condT rfl ?_
    refine WpC.region ?_
    refine WpOps.consE (v := .lit (.map (some g))) rfl rfl (Exact.load rfl rfl hc rfl rfl) ?_
    refine WpOps.pn 1 rfl trivial ?_
    refine WpOps.consE (v := .rows 6 (x.toks.map cGTok)) rfl rfl (Exact.load_rop rfl rfl rfl) ?_
    refine WpOps.consG rfl rfl (WpO.call rfl rfl rfl ((w_words_add hx hg).mono (fun v H2 hq => ?_) (fun _ _ h => h.elim)))
    obtain ⟨rfl, rfl⟩ := hq
    refine WpOps.nil ?_
    exact VEnds.end0 rfl ⟨rfl, by rw [e1]⟩
  · have hk2 : ¬ x.kind = 2 := by simpa using hb
    refine WpOps.pn 1 rfl trivial ?_
    refine WpOps.nil ?_
    refine WpC.condF rfl ?_
    refine WpC.seqR ?_
    refine WpOps.pn 1 rfl trivial ?_
    refine WpOps.split 7 rfl (fun hb => ?_) (fun hb => ?_)
    · have hk5 : x.kind = 5 := by simpa using hb
      refine WpOps.pn 1 rfl trivial ?_
      refine WpOps.nil ?_
      refine WpC.condT rfl ?_
      refine WpC.skip ?_
      have e1 : askedF ks x = addS ks x.toks := if_pos (by omega)
      refine WpC.condT rfl ?_
      refine WpC.region ?_
      refine WpOps.consE (v := .lit (.map (some g))) rfl rfl (Exact.load rfl rfl hc rfl rfl) ?_
      refine WpOps.pn 1 rfl trivial ?_
      refine WpOps.consE (v := .rows 6 (x.toks.map cGTok)) rfl rfl (Exact.load_rop rfl rfl rfl) ?_
      refine WpOps.consG rfl rfl (WpO.call rfl rfl rfl ((w_words_add hx hg).mono (fun v H2 hq => ?_) (fun _ _ h => h.elim)))
      obtain ⟨rfl, rfl⟩ := hq
      refine WpOps.nil ?_
      exact VEnds.end0 rfl ⟨rfl, by rw [e1]⟩
    · have hk5 : ¬ x.kind = 5 := by simpa using hb
      refine WpOps.pn 1 rfl trivial ?_
      refine WpOps.nil ?_
      refine WpC.condF rfl ?_
      refine WpC.seqR ?_
      refine WpOps.pn 1 rfl trivial ?_
      refine WpOps.split 8 rfl (fun hb => ?_) (fun hb => ?_)
      · have hk3 : x.kind = 3 := by simpa using hb
        refine WpOps.pn 1 rfl trivial ?_
        refine WpOps.nil ?_
        refine WpC.condT rfl ?_
        refine WpC.skip ?_
        have e1 : askedF ks x = addS ks x.toks := if_pos (by omega)
        refine WpC.condT rfl ?_
        refine WpC.region ?_
        refine WpOps.consE (v := .lit (.map (some g))) rfl rfl (Exact.load rfl rfl hc rfl rfl) ?_
        refine WpOps.pn 1 rfl trivial ?_
        refine WpOps.consE (v := .rows 6 (x.toks.map cGTok)) rfl rfl (Exact.load_rop rfl rfl rfl) ?_
        refine WpOps.consG rfl rfl (WpO.call rfl rfl rfl ((w_words_add hx hg).mono (fun v H2 hq => ?_) (fun _ _ h => h.elim)))
        obtain ⟨rfl, rfl⟩ := hq
        refine WpOps.nil ?_
        exact VEnds.end0 rfl ⟨rfl, by rw [e1]⟩
      · have hk3 : ¬ x.kind = 3 := by simpa using hb
        refine WpOps.pn 1 rfl trivial ?_
        refine WpOps.nil ?_
        refine WpC.condF rfl ?_
        refine WpC.region ?_
        refine WpOps.pn 1 rfl trivial ?_
        refine WpOps.split 9 rfl (fun hb => ?_) (fun hb => ?_)
        · have hk4 : x.kind = 4 := by simpa using hb
          refine WpOps.pn 1 rfl trivial ?_
          refine WpOps.nil ?_
          have e1 : askedF ks x = addS ks x.toks := if_pos (by omega)
          refine WpC.condT rfl ?_
          refine WpC.region ?_
          refine WpOps.consE (v := .lit (.map (some g))) rfl rfl (Exact.load rfl rfl hc rfl rfl) ?_
          refine WpOps.pn 1 rfl trivial ?_
          refine WpOps.consE (v := .rows 6 (x.toks.map cGTok)) rfl rfl (Exact.load_rop rfl rfl rfl) ?_
          refine WpOps.consG rfl rfl (WpO.call rfl rfl rfl ((w_words_add hx hg).mono (fun v H2 hq => ?_) (fun _ _ h => h.elim)))
          obtain ⟨rfl, rfl⟩ := hq
          refine WpOps.nil ?_
          exact VEnds.end0 rfl ⟨rfl, by rw [e1]⟩
        · have hk4 : ¬ x.kind = 4 := by simpa using hb
          refine WpOps.pn 1 rfl trivial ?_
          refine WpOps.nil ?_
          have e1 : askedF ks x = ks := if_neg (by omega)
          refine WpC.condF rfl ?_
          refine WpC.skip ?_
          exact VEnds.end0 rfl ⟨rfl, by rw [e1, Heap.set_self hg]⟩
theorem w_lines {fdo gc : Nat} {F : List (List UInt8) → GLine → List (List UInt8)} {enc : List (List UInt8) → Heap} (hG : ∀ ks, Glob (enc ks)) (he : enterable Tryd.prog fdo = true)
    (hdo : ∀ ks x, x.toks.length ≤ 9223372036854775806 → TCall Tryd.prog fdo [.agg (cGLine x), (.lit (.pointer (some ⟨gc, 0, none⟩)))] (enc ks) (fun v H' => v = .tup [] ∧ H' = enc (F ks x)) noE) {fs : List GFile} {ks r : List (List UInt8)} (hlen : fs.length ≤ 9223372036854775806) (h : linesO F 0 fs ks = some r) :
    TCall Tryd.prog 25 [.rows 2 (fs.map cGFile), .clo (.func fdo) [] [(.lit (.pointer (some ⟨gc, 0, none⟩)))]] (enc ks) (fun v H' => v = .tup [] ∧ H' = enc r) noE := by
  refine TCall.body Tryd.func25 rfl rfl ?_
  have hix : ∀ i, (h : i < fs.length) → Sh.ix fs (i : Int) = some fs[i] := fun i h => by rw [Sh.ix_nat]; exact List.getElem?_eq_getElem h
  refine WpC.seqR ?_
  refine WpOps.pn 2 rfl trivial ?_
  refine WpOps.at 9 (len_map _ _) ?_
  refine WpOps.pn 1 rfl trivial ?_
  refine WpOps.nil ?_
  refine WpC.block ?_
  refine WpC.loop (fun n env H => ∃ (i : Nat) (ks2 : List (List UInt8)), n = fs.length - i ∧ i ≤ fs.length ∧ knows env [(1, .clo (.func fdo) [] [(.lit (.pointer (some ⟨gc, 0, none⟩)))]), (8, .rows 2 (fs.map cGFile)), (9, iA fs.length), (10, iA i)] ∧ linesO F i (fs.drop i) ks2 = some r ∧ H = enc ks2) _ ⟨0, ks, rfl, Nat.zero_le _, ⟨rfl, rfl, rfl, rfl, trivial⟩, by simpa using h, rfl⟩ ?_
  rintro n env H ⟨i, ks2, rfl, hi, hk, hs, rfl⟩
  rw [← hk.eq]
  refine WpC.seqR ?_
  refine WpOps.pn 1 rfl trivial ?_
  refine WpOps.nil ?_
  refine WpC.seq ?_
  refine WpC.condB rfl (fun hb => ?_) (fun hb => ?_)
  · have hlt : i < fs.length := by simpa using hb
    rw [List.drop_eq_getElem_cons hlt, linesO] at hs
    obtain ⟨l, hl, hs⟩ := Sh.bind_some hs
    obtain ⟨xs, hxs, hs⟩ := Sh.bind_some hs
    obtain ⟨⟨b1, b2⟩, hs⟩ := Sh.chk_some hs
    have hGH := hG ks2
    have hH : Holds (enc ks2) [] (enc ks2) := rfl
    have hixL : ∀ i, (h : i < xs.length) → Sh.ix xs (i : Int) = some xs[i] := fun i h => by rw [Sh.ix_nat]; exact List.getElem?_eq_getElem h
    refine WpC.skip ?_
    refine WpC.seq ?_
    refine WpC.block ?_
    refine WpC.seqR ?_
    refine WpOps.pn 1 rfl trivial ?_
    refine WpOps.consE (v := .rop (cGFile fs[i])) rfl rfl (Exact.ixr cGFile (hix i hlt) rfl rfl rfl rfl (by kernel_rfl) (by decide)) ?_
    refine WpOps.consE (v := .agg (cGFile fs[i])) rfl rfl (Exact.load_rop rfl rfl rfl) ?_
    refine WpOps.consG rfl rfl (WpO.allocT (z := cGFile (GFile.mk [] [])) rfl rfl hH fun g2 H' hH => ?_)
    refine WpOps.pn 1 rfl trivial ?_
    refine WpOps.consG rfl rfl (WpO.putT (cs' := cGFile fs[i]) (v := .agg (cGFile fs[i])) rfl rfl hH (i := 0) rfl rfl rfl rfl rfl rfl rfl fun H' hH => ?_)
    refine WpOps.nil ?_
    refine WpC.ice (t := 5) (i := 0) hH rfl rfl (fun H' hH => ?_)
    obtain rfl : H' = enc ks2 := hH
    refine WpC.seqR ?_
    refine WpOps.pn 2 rfl trivial ?_
    refine WpOps.consE (v := sA fs[i].text) rfl rfl (Exact.load_rop rfl rfl rfl) ?_
    refine WpOps.consE (v := .rows 6 (l.map cGTok)) rfl rfl (Exact.call rfl rfl rfl (w_pptok_Tokens hGH hl)) ?_
    refine WpOps.consE (v := .rows 4 (xs.map cGLine)) rfl rfl (Exact.call rfl rfl rfl (w_direct_Lines hGH hxs)) ?_
    refine WpOps.pn 1 rfl trivial ?_
    refine WpOps.at 20 (len_map _ _) ?_
    refine WpOps.pn 1 rfl trivial ?_
    refine WpOps.nil ?_
    refine WpC.block ?_
    refine WpC.loop (fun n env H => ∃ (j : Nat), n = xs.length - j ∧ j ≤ xs.length ∧ knows env [(1, .clo (.func fdo) [] [(.lit (.pointer (some ⟨gc, 0, none⟩)))]), (8, .rows 2 (fs.map cGFile)), (9, iA fs.length), (10, iA i), (19, .rows 4 (xs.map cGLine)), (20, iA xs.length), (21, iA j)] ∧ H = enc ((xs.take j).foldl F ks2)) _ ⟨0, rfl, Nat.zero_le _, ⟨rfl, rfl, rfl, rfl, rfl, rfl, rfl, trivial⟩, rfl⟩ ?_
    rintro n env H ⟨j, rfl, hj, hk, rfl⟩
    rw [← hk.eq]
    refine WpC.seqR ?_
    refine WpOps.pn 1 rfl trivial ?_
    refine WpOps.nil ?_
    refine WpC.seq ?_
    refine WpC.condB rfl (fun hb => ?_) (fun hb => ?_)
    · have hltj : j < xs.length := by simpa using hb
      generalize hks : (xs.take j).foldl F ks2 = ks3
      have hH : Holds (enc ks3) [] (enc ks3) := rfl
      refine WpC.skip ?_
      refine WpC.seq ?_
      refine WpC.block ?_
      refine WpC.seqR ?_
      refine WpOps.consE (v := .rop (cGLine xs[j])) rfl rfl (Exact.ixr cGLine (hixL j hltj) rfl rfl rfl rfl (by kernel_rfl) (by decide)) ?_
      refine WpOps.consE (v := .agg (cGLine xs[j])) rfl rfl (Exact.load_rop rfl rfl rfl) ?_
      refine WpOps.consG rfl rfl (WpO.allocU (z' := cGLine (GLine.mk (0 : Int) (0 : Int) (0 : Int) ([] : List GTok))) rfl rfl (.cons (.refl _) (.cons (.refl _) (.cons (.refl _) (.cons (Sub.nil _) .nil)))) hH fun g3 H' hH => ?_)
      refine WpOps.consG rfl rfl (WpO.putT (cs' := cGLine xs[j]) (v := .agg (cGLine xs[j])) rfl rfl hH (i := 0) rfl rfl rfl rfl rfl rfl rfl fun H' hH => ?_)
      refine WpOps.nil ?_
      refine WpC.ice (t := 7) (i := 0) hH rfl rfl (fun H' hH => ?_)
      obtain rfl : H' = enc ks3 := hH
      refine WpC.region ?_
      refine WpOps.pn 1 rfl trivial ?_
      refine WpOps.consE (v := .agg (cGLine xs[j])) rfl rfl (Exact.load_rop rfl rfl rfl) ?_
      refine WpOps.consG rfl rfl (WpO.call_clo rfl rfl he rfl ((hdo ks3 xs[j] (b2 _ (List.getElem_mem hltj))).mono (fun v H2 hq => ?_) (fun _ _ h => h.elim)))
      obtain ⟨rfl, rfl⟩ := hq
      refine WpOps.nil ?_
      refine WpC.region ?_
      refine WpOps.pn 2 rfl (show -9223372036854775808 ≤ (j : Int) + 1 ∧ (j : Int) + 1 ≤ 9223372036854775807 from ⟨by omega, by omega⟩) ?_
      refine WpOps.nil ?_
      exact ⟨xs.length - (j + 1), by omega, j + 1, rfl, by omega, ⟨rfl, rfl, rfl, rfl, rfl, rfl, rfl, trivial⟩, by rw [List.take_add_one, List.getElem?_eq_getElem hltj, List.foldl_append, hks]; rfl⟩
    · have hge : j = xs.length := by
        have : ¬ ((j : Int) < (xs.length : Int)) := by simpa using hb
        omega
      refine WpC.exit ?_
      refine WpC.region ?_
      refine WpOps.pn 2 rfl (show -9223372036854775808 ≤ (i : Int) + 1 ∧ (i : Int) + 1 ≤ 9223372036854775807 from ⟨by omega, by omega⟩) ?_
      refine WpOps.nil ?_
      exact ⟨fs.length - (i + 1), by omega, i + 1, xs.foldl F ks2, rfl, by omega, ⟨rfl, rfl, rfl, rfl, trivial⟩, hs, by rw [hge, List.take_length]⟩
  · have hge : i = fs.length := by
      have : ¬ ((i : Int) < (fs.length : Int)) := by simpa using hb
      omega
    rw [hge, List.drop_length, linesO] at hs
    injection hs with hs
    subst hs
    refine WpC.exit ?_
    exact VEnds.end0 rfl ⟨rfl, rfl⟩
/-- a set of names in a cell of its own -/
def encK (H0 : Heap) (g gc : Nat) (ks : List (List UInt8)) : Heap := (H0.set g (.map (kv ks))).set gc (.cells 43 [.lit (.map (some g))])
theorem encK_put {H0 : Heap} {g gc : Nat} (hne : gc ≠ g) (ks ks' : List (List UInt8)) : (encK H0 g gc ks).set g (.map (kv ks')) = encK H0 g gc ks' := by
  unfold encK; rw [Heap.set_comm hne, Heap.set_set]
theorem encK_g {H0 : Heap} {g gc : Nat} (hne : gc ≠ g) (ks : List (List UInt8)) : encK H0 g gc ks g = some (.map (kv ks)) := by
  unfold encK; rw [Heap.set_ne _ _ (Ne.symm hne), Heap.set_same]
theorem encK_c {H0 : Heap} {g gc : Nat} (ks : List (List UInt8)) : encK H0 g gc ks gc = some (.cells 43 [.lit (.map (some g))]) := Heap.set_same _ _ _
theorem w_world_known {H0 : Heap} (hG : Glob H0) {fs : List GFile} {r : List (List UInt8)} (h : world_known fs = some r) : TCall Tryd.prog 34 [.rows 2 (fs.map cGFile)] H0 (fun v H' => ∃ g, H0 g = none ∧ v = .lit (.map (some g)) ∧ H' = H0.set g (.map (kv r))) noE := by
  obtain ⟨hlen, h⟩ := Sh.chk_some h
  refine TCall.up (TCall.body Tryd.func34 rfl rfl ?_)
  refine WpC.seqR ?_
  refine WpOps.pn 1 rfl trivial ?_
  refine WpOps.nil ?_
  refine WpC.seqR ?_
  refine WpOps.consG rfl rfl (WpO.makeMap rfl fun g hg => ?_)
  refine WpOps.consG rfl rfl (WpO.alloc rfl rfl fun gc hgc => ?_)
  refine WpOps.consG rfl rfl (WpO.put rfl rfl (Heap.set_same _ _ _) rfl rfl rfl rfl rfl rfl ?_)
  refine WpOps.heap (H' := encK H0 g gc []) (Heap.set_set _ _ _ _) ?_
  refine WpOps.nil ?_
  have hne : gc ≠ g := (set_none hgc).1
  have hG2 : ∀ ks, Glob (encK H0 g gc ks) := fun ks => hG.le (Heap.le_set (Heap.le_set (Heap.le_refl _) hg _) (set_none hgc).2 _)
  refine WpC.seqR ?_
  refine WpOps.pn 2 rfl trivial ?_
  refine WpOps.consG rfl rfl (WpO.call rfl rfl rfl ((w_lines (F := knownF) (enc := encK H0 g gc) hG2 (by kernel_rfl) (fun ks x hx => (w_known1 hx (encK_c ks) (encK_g hne ks)).mono (fun v H' hq => ⟨hq.1, hq.2.trans (encK_put hne _ _)⟩) (fun _ _ h => h)) hlen h).mono (fun v H2 hq => ?_) (fun _ _ h => h.elim)))
  obtain ⟨rfl, rfl⟩ := hq
  refine WpOps.nil ?_
  refine WpC.seqR ?_
  refine WpOps.consE (v := .lit (.map (some g))) rfl rfl (Exact.load rfl rfl (encK_c r) rfl rfl) ?_
  refine WpOps.pn 1 rfl trivial ?_
  refine WpOps.nil ?_
  refine WpC.ret ?_
  exact VEnds.ret1 rfl rfl ⟨_, H0.set g (.map (kv r)), Up.drop (Heap.le_set (Heap.le_refl _) (show (H0.set g (.map (kv r))) gc = none from by rw [Heap.set_ne _ _ hne]; exact (set_none hgc).2) _) _, g, hg, rfl, rfl⟩
theorem w_world_KnownO {H0 : Heap} (hG : Glob H0) {fs : List GFile} {r : List (List UInt8)} (h : world_Known fs = some r) : TCall Tryd.prog 17 [.rows 2 (fs.map cGFile)] H0 (fun v H' => ∃ q H1', H0.le H1' ∧ Vc.Own H1' 9 1 (r.map cS) (r.map cS).length q H' ∧ v = .own (r.map cS).length q) noE := by
  obtain ⟨ks, hks, h⟩ := Sh.bind_some h
  obtain ⟨⟨hnd, hroom⟩, h⟩ := Sh.chk_some h
  obtain rfl := Sh.some_inj h
  refine TCall.body Tryd.func17 rfl rfl ?_
  refine WpC.seqR ?_
  refine WpOps.pn 1 rfl trivial ?_
  refine WpOps.nil ?_
  refine WpC.seqR ?_
  refine WpOps.pn 1 rfl trivial ?_
  refine WpOps.consG rfl rfl (WpO.call rfl rfl rfl ((w_world_known hG hks).mono (fun v H2 hq => ?_) (fun _ _ h => h.elim)))
  obtain ⟨g, hg, rfl, rfl⟩ := hq
  refine WpOps.consG rfl rfl (WpO.call rfl rfl rfl ((w_words_sortedO hnd hroom (Heap.set_same _ _ _)).mono (fun v H2 hq => ?_) (fun _ _ h => h.elim)))
  obtain ⟨q, H1', hle, own, rfl⟩ := hq
  refine WpOps.pn 1 rfl trivial ?_
  refine WpOps.nil ?_
  refine WpC.ret ?_
  exact VEnds.ret1 rfl rfl ⟨q, H1', Heap.le_trans (Heap.le_set (Heap.le_refl _) hg _) hle, own, rfl⟩
theorem w_world_Known {H0 : Heap} (hG : Glob H0) {fs : List GFile} {r : List (List UInt8)} (h : world_Known fs = some r) : TCall Tryd.prog 17 [.rows 2 (fs.map cGFile)] H0 (fun v H' => v = (AV.rows 1 (List.map cS r)) ∧ H' = H0) noE :=
  TCall.up ((w_world_KnownO hG h).mono (fun v H' ⟨q, H1', hle, own, e⟩ => ⟨_, H0, by rw [e]; exact own_up2 own hle, rfl, rfl⟩) (fun _ _ h => h))
theorem w_IndexFunc {fd : Nat} {c0 : AV} {p : List UInt8 → Bool} (he : enterable Tryd.prog fd = true) (hd : ∀ H y, TCall Tryd.prog fd [sA y, c0] H (fun v H' => v = bA (p y) ∧ H' = H) noE) {H : Heap} {l : List (List UInt8)} (hl : l.length ≤ 9223372036854775806) :
    TCall Tryd.prog 39 [.rows 1 (l.map cS), .clo (.func fd) [] [c0]] H (fun v H' => v = iA (idxF p 0 l) ∧ H' = H) noE := by
  refine TCall.body Tryd.func39 rfl rfl ?_
  have hix : ∀ i, (h : i < l.length) → Sh.ix l (i : Int) = some l[i] := fun i h => by rw [Sh.ix_nat]; exact List.getElem?_eq_getElem h
  refine WpC.seqR ?_
  refine WpOps.pn 1 rfl trivial ?_
  refine WpOps.nil ?_
  refine WpC.seq ?_
  refine WpC.seqR ?_
  refine WpOps.pn 2 rfl trivial ?_
  refine WpOps.at 7 (len_map _ _) ?_
  refine WpOps.pn 1 rfl trivial ?_
  refine WpOps.nil ?_
  refine WpC.block ?_
  refine WpC.loop (fun n env H' => ∃ (j : Nat), n = l.length - j ∧ j ≤ l.length ∧ knows env [(0, .rows 1 (l.map cS)), (1, .clo (.func fd) [] [c0]), (7, iA l.length), (8, iA j)] ∧ idxF p j (l.drop j) = idxF p 0 l ∧ H' = H) _ ⟨0, rfl, Nat.zero_le _, ⟨rfl, rfl, rfl, rfl, trivial⟩, rfl, rfl⟩ ?_
  rintro n env H ⟨j, rfl, hj, hk, hv, rfl⟩
  rw [← hk.eq]
  refine WpC.seqR ?_
  refine WpOps.pn 1 rfl trivial ?_
  refine WpOps.nil ?_
  refine WpC.seq ?_
  refine WpC.condB rfl (fun hb => ?_) (fun hb => ?_)
  · have hlt : j < l.length := by simpa using hb
    rw [idxF_drop l j hlt] at hv
    refine WpC.skip ?_
    refine WpC.seq ?_
    refine WpC.block ?_
    refine WpC.seqR ?_
    refine WpOps.pn 2 rfl trivial ?_
    refine WpOps.nil ?_
    refine WpC.seqR ?_
    refine WpOps.pn 3 rfl trivial ?_
    refine WpOps.consE (v := .rop (cS l[j])) rfl rfl (Exact.ixr cS (hix j hlt) rfl rfl rfl rfl (by kernel_rfl) (by decide)) ?_
    refine WpOps.consE (v := sA l[j]) rfl rfl (Exact.load_rop rfl rfl rfl) ?_
    refine WpOps.consE (v := bA (p l[j])) rfl rfl (Exact.call_clo rfl rfl he (forceL_eq _ _) (hd _ _)) ?_
    refine WpOps.nil ?_
    refine WpC.condB rfl (fun hb2 => ?_) (fun hb2 => ?_)
    · rw [if_pos hb2] at hv
      refine WpC.seqR ?_
      refine WpOps.pn 2 rfl trivial ?_
      refine WpOps.nil ?_
      refine WpC.ret ?_
      exact VEnds.ret1 rfl rfl ⟨by rw [← hv], rfl⟩
    · rw [if_neg (by rw [hb2]; simp)] at hv
      refine WpC.skip ?_
      refine WpC.region ?_
      refine WpOps.pn 2 rfl (show -9223372036854775808 ≤ (j : Int) + 1 ∧ (j : Int) + 1 ≤ 9223372036854775807 from ⟨by omega, by omega⟩) ?_
      refine WpOps.nil ?_
      exact ⟨l.length - (j + 1), by omega, j + 1, rfl, by omega, ⟨rfl, rfl, rfl, rfl, trivial⟩, hv, rfl⟩
  · have hge : j = l.length := by
      have : ¬ ((j : Int) < (l.length : Int)) := by simpa using hb
      omega
    rw [hge, List.drop_length] at hv
    refine WpC.exit ?_
    refine WpC.seqR ?_
    refine WpOps.pn 1 rfl trivial ?_
    refine WpOps.nil ?_
    refine WpC.ret ?_
    exact VEnds.ret1 rfl rfl ⟨by rw [← hv]; rfl, rfl⟩
theorem w_DeleteFunc {fd : Nat} {c0 : AV} {p : List UInt8 → Bool} (he : enterable Tryd.prog fd = true) (hd : ∀ H y, TCall Tryd.prog fd [sA y, c0] H (fun v H' => v = bA (p y) ∧ H' = H) noE) {H1 H : Heap} {l : List (List UInt8)} {q : Option (Nat × Nat)} (hl : l.length ≤ 9223372036854775806) (own : Vc.Own H1 9 1 (l.map cS) (l.map cS).length q H) :
    TCall Tryd.prog 28 [.own (l.map cS).length q, .clo (.func fd) [] [c0]] H (fun v H' => ∃ q', Vc.Own H1 9 1 ((l.filter fun y => !p y).map cS) ((l.filter fun y => !p y).map cS).length q' H' ∧ v = .own ((l.filter fun y => !p y).map cS).length q') noE := by
  refine TCall.body Tryd.func28 rfl rfl ?_
  have hH : Holds H1 [.own 9 1 q (l.map cS)] H := ⟨H1, rfl, own⟩
  refine WpC.seqR ?_
  refine WpOps.pn 1 rfl trivial ?_
  refine WpOps.nil ?_
  refine WpC.seqR ?_
  refine WpOps.pn 2 rfl trivial ?_
  refine WpOps.consE (v := iA (idxF p 0 l)) rfl rfl (Exact.peek (t := 8) (i := 0) hH rfl rfl (Exact.call rfl rfl rfl (w_IndexFunc he hd hl))) ?_
  refine WpOps.pn 1 rfl trivial ?_
  refine WpOps.nil ?_
  refine WpC.seq ?_
  refine WpC.seqR ?_
  refine WpOps.pn 2 rfl trivial ?_
  refine WpOps.nil ?_
  refine WpC.condB rfl (fun hb => ?_) (fun hb => ?_)
  · have hm : idxF p 0 l = -1 := by simpa using hb
    refine WpC.seqR ?_
    refine WpOps.pn 2 rfl trivial ?_
    refine WpOps.nil ?_
    refine WpC.ret ?_
    exact VEnds.ret1 rfl rfl (by rw [idxF_none l 0 hm]; exact ⟨q, own, rfl⟩)
  · have hm : idxF p 0 l ≠ -1 := by simpa using hb
    obtain ⟨k, hk, e1, hpk, hf⟩ := idxF_some l 0 hm
    rw [Nat.zero_add] at e1
    have hne : l.map cS ≠ [] := fun e => by have := congrArg List.length e; simp at this; subst this; exact absurd hk (Nat.not_lt_zero _)
    obtain ⟨g, c, rfl⟩ := hH.grown (i := 0) rfl hne
    refine WpC.at 5 (v := iA k) (by rw [← e1]; rfl) ?_
    refine WpC.skip ?_
    refine WpC.seq ?_
    refine WpC.seqR ?_
    refine WpOps.pn 3 rfl (show -9223372036854775808 ≤ (k : Int) + 1 ∧ (k : Int) + 1 ≤ 9223372036854775807 from ⟨by omega, by omega⟩) ?_
    refine WpOps.nil ?_
    refine WpC.block ?_
    have hfk : (l.take (k + 1)).filter (fun y => !p y) = l.take k := by
      rw [List.take_add_one, List.getElem?_eq_getElem hk, List.filter_append, hf, Option.toList_some, List.filter_cons, hpk]; simp
    refine WpC.loop (fun n env H => ∃ (j i : Nat) (R : List (List UInt8)), n = l.length - j ∧ j ≤ l.length ∧ i < j ∧ R.length = l.length ∧ R.take i = (l.take j).filter (fun y => !p y) ∧ R.drop j = l.drop j ∧ knows env [(0, .own (R.map cS).length (some (g, c))), (1, .clo (.func fd) [] [c0]), (5, iA i), (6, iA j)] ∧ Holds H1 [.own 9 1 (some (g, c)) (R.map cS)] H) _ ⟨k + 1, k, l, rfl, by omega, by omega, rfl, hfk.symm, rfl, ⟨rfl, rfl, rfl, rfl, trivial⟩, hH⟩ ?_
    clear hH
    rintro n env H ⟨j, i, R, rfl, hj, hij, hR, h1, h2, hk2, hH⟩
    rw [← hk2.eq]
    refine WpC.seq ?_
    refine WpC.seqR ?_
    refine WpOps.pn 3 rfl trivial ?_
    refine WpOps.at 18 (len_map _ _) ?_
    refine WpOps.pn 1 rfl trivial ?_
    refine WpOps.nil ?_
    refine WpC.condB rfl (fun hb => ?_) (fun hb => ?_)
    · have hlt : j < R.length := by simpa using hb
      have hlt2 : j < l.length := by omega
      have hixR : ∀ i, (h : i < R.length) → Sh.ix R (i : Int) = some R[i] := fun i h => by rw [Sh.ix_nat]; exact List.getElem?_eq_getElem h
      have hRj : R[j] = l[j] := by
        have := congrArg (fun z => z[0]?) h2
        simp only [List.getElem?_drop, Nat.add_zero, List.getElem?_eq_getElem hlt, List.getElem?_eq_getElem hlt2] at this
        injection this
      refine WpC.skip ?_
      refine WpC.seq ?_
      refine WpC.block ?_
      refine WpC.seqR ?_
      refine WpOps.pn 2 rfl trivial ?_
      refine WpOps.consE rfl rfl (Exact.ixo (size := 1) cS (hixR j hlt) rfl rfl rfl rfl (by kernel_rfl) (by decide)) ?_
      refine WpOps.consE (v := sA R[j]) rfl rfl (Exact.ldo (off := 0) (i := 0) cS (hixR j hlt) hH rfl rfl rfl (by decide) rfl) ?_
      refine WpOps.pn 1 rfl trivial ?_
      refine WpOps.nil ?_
      have hnext : (l.take (j + 1)).filter (fun y => !p y) = (l.take j).filter (fun y => !p y) ++ (if p l[j] = true then [] else [l[j]]) := by
        rw [List.take_add_one, List.getElem?_eq_getElem hlt2, List.filter_append, Option.toList_some, List.filter_cons]
        cases p l[j] <;> rfl
      refine WpC.seqR ?_
      refine WpOps.pn 2 rfl trivial ?_
      refine WpOps.consE (v := bA (p R[j])) rfl rfl (Exact.call_clo rfl rfl he (forceL_eq _ _) (hd _ _)) ?_
      refine WpOps.pn 1 rfl trivial ?_
      refine WpOps.nil ?_
      refine WpC.condB rfl (fun hb2 => ?_) (fun hb2 => ?_)
      · have hp : p l[j] = false := by rw [← hRj]; simpa using hb2
        have hlti : i < R.length := by omega
        refine WpC.seqR ?_
        refine WpOps.pn 3 rfl trivial ?_
        refine WpOps.consE rfl rfl (Exact.ixo (size := 1) cS (hixR i hlti) rfl rfl rfl rfl (by kernel_rfl) (by decide)) ?_
        refine WpOps.consG rfl rfl (WpO.setT (off := 0) (i := 0) cS (y' := R[j]) (v := sA R[j]) (hixR i hlti) hH rfl rfl rfl rfl rfl rfl rfl rfl rfl fun H' hH => ?_)
        refine WpOps.at 0 (v := .own ((R.set i R[j]).map cS).length (some (g, c))) (by simp [Env.of, own_set]; rfl) ?_
        refine WpOps.nil ?_
        refine WpC.region ?_
        refine WpOps.pn 3 rfl (show -9223372036854775808 ≤ (i : Int) + 1 ∧ (i : Int) + 1 ≤ 9223372036854775807 from ⟨by omega, by omega⟩) ?_
        refine WpOps.nil ?_
        refine WpC.region ?_
        refine WpOps.pn 3 rfl (show -9223372036854775808 ≤ (j : Int) + 1 ∧ (j : Int) + 1 ≤ 9223372036854775807 from ⟨by omega, by omega⟩) ?_
        refine WpOps.nil ?_
        refine ⟨l.length - (j + 1), by omega, j + 1, i + 1, R.set i R[j], rfl, by omega, by omega, by simpa using hR, ?_, ?_, ⟨rfl, rfl, rfl, rfl, trivial⟩, hH⟩
        · rw [hnext, hp, ← h1, List.take_add_one, List.getElem?_set_self hlti, List.take_set_of_le (Nat.le_refl _), hRj]; rfl
        · rw [List.drop_set_of_lt (by omega), ← List.drop_drop, h2, List.drop_drop]
      · have hp : p l[j] = true := by rw [← hRj]; simpa using hb2
        refine WpC.skip ?_
        refine WpC.region ?_
        refine WpOps.pn 3 rfl (show -9223372036854775808 ≤ (j : Int) + 1 ∧ (j : Int) + 1 ≤ 9223372036854775807 from ⟨by omega, by omega⟩) ?_
        refine WpOps.nil ?_
        refine ⟨l.length - (j + 1), by omega, j + 1, i, R, rfl, by omega, by omega, hR, ?_, ?_, ⟨rfl, rfl, rfl, rfl, trivial⟩, hH⟩
        · rw [hnext, hp, h1]; simp
        · rw [← List.drop_drop, h2, List.drop_drop]
    · have hge : j = l.length := by
        have : ¬ ((j : Int) < (R.length : Int)) := by simpa using hb
        omega
      rw [hge, List.take_length] at h1
      have hrow := hH.row (i := 0) rfl
      refine WpC.exit ?_
      refine WpC.seqR ?_
      refine WpOps.pn 2 rfl trivial ?_
      refine WpOps.consE rfl rfl (Exact.slice_rest (k := i) (size := 1) rfl rfl rfl hrow (Nat.le_refl _) (by rw [List.length_map]; omega) rfl rfl (by decide)) ?_
      refine WpOps.consG rfl rfl (WpO.clearCut (k := i) (size := 1) (m := (R.map cS).length - i) rfl rfl (by kernel_rfl) (by decide) rfl hrow (fun h => if_pos h) (by rw [List.length_map]; omega) (fun hcap => ?_))
      refine WpOps.nil ?_
      refine WpC.seqR ?_
      refine WpOps.pn 2 rfl trivial ?_
      refine WpOps.consE rfl rfl (Exact.slice_buf2 (k := i) (size := 1) rfl rfl rfl hcap (by rw [List.length_map]; omega) rfl rfl (by decide)) ?_
      refine WpOps.pn 1 rfl trivial ?_
      refine WpOps.nil ?_
      refine WpC.ret ?_
      have hi2 : ((R.map cS).take i) = (l.filter fun y => !p y).map cS := by rw [← List.map_take, h1]
      have hi3 : i = ((l.filter fun y => !p y).map cS).length := by rw [← hi2, List.length_take, List.length_map]; omega
      obtain ⟨H2, e2, own2⟩ := hH
      have e2 : H2 = H1 := e2
      subst e2
      have hr2 := Own.row_inv own2 rfl
      obtain ⟨hn2, _, rfl⟩ := hr2
      refine VEnds.ret1 rfl rfl ⟨some (g, c), ?_, by rw [← hi3]⟩
      rw [Heap.set_set, hi2]
      exact Vc.Own.row g c hn2 rfl
theorem w_names2 {H : Heap} {no : List (List UInt8)} {y : List UInt8} (hno : no.length ≤ 2000000) : TCall Tryd.prog 30 [sA y, .rop [.rows 1 (no.map cS)]] H (fun v H' => v = bA (decide (y ∈ no)) ∧ H' = H) noE := by
  refine TCall.body Tryd.func30 rfl rfl ?_
  refine WpC.seqR ?_
  refine WpOps.pn 1 rfl trivial ?_
  refine WpOps.nil ?_
  refine WpC.seqR ?_
  refine WpOps.consE (v := .rows 1 (no.map cS)) rfl rfl (Exact.load_rop rfl rfl rfl) ?_
  refine WpOps.pn 1 rfl trivial ?_
  refine WpOps.consE (v := bA (decide (y ∈ no))) rfl rfl (Exact.call rfl rfl rfl (w_slices_Contains_Lstring_string (contains_eq no y hno))) ?_
  refine WpOps.pn 1 rfl trivial ?_
  refine WpOps.nil ?_
  refine WpC.ret ?_
  exact VEnds.ret1 rfl rfl ⟨rfl, rfl⟩
theorem ekNo : ElemOk Tryd.prog 22 9 1 16 := ElemOk.of (by kernel_rfl)
theorem w_world_Names {H0 : Heap} (hG : Glob H0) {fs : List GFile} {r : List (List UInt8) × Int} (h : world_Names fs = some r) : TCall Tryd.prog 15 [.rows 2 (fs.map cGFile)] H0 (fun v H' => v = (.tup [(AV.rows 1 (List.map cS r.1)), (iA r.2)]) ∧ H' = H0) noE := by
  obtain ⟨hlen, h⟩ := Sh.chk_some h
  obtain ⟨ks, hks, h⟩ := Sh.bind_some h
  obtain ⟨kn, hkn, h⟩ := Sh.bind_some h
  obtain ⟨⟨hknl, hnd, hksl⟩, h⟩ := Sh.chk_some h
  refine TCall.up (TCall.body Tryd.func15 rfl rfl ?_)
  refine WpC.seqR ?_
  refine WpOps.pn 2 rfl trivial ?_
  refine WpOps.nil ?_
  refine WpC.seqR ?_
  refine WpOps.consG rfl rfl (WpO.makeMap rfl fun g hg => ?_)
  refine WpOps.consG rfl rfl (WpO.alloc rfl rfl fun gc hgc => ?_)
  refine WpOps.consG rfl rfl (WpO.put rfl rfl (Heap.set_same _ _ _) rfl rfl rfl rfl rfl rfl ?_)
  refine WpOps.heap (H' := encK H0 g gc []) (Heap.set_set _ _ _ _) ?_
  refine WpOps.nil ?_
  have hne : gc ≠ g := (set_none hgc).1
  have hl0 : ∀ ks, H0.le (encK H0 g gc ks) := fun ks => Heap.le_set (Heap.le_set (Heap.le_refl _) hg _) (set_none hgc).2 _
  have hG2 : ∀ ks, Glob (encK H0 g gc ks) := fun ks => hG.le (hl0 ks)
  refine WpC.seqR ?_
  refine WpOps.pn 2 rfl trivial ?_
  refine WpOps.consG rfl rfl (WpO.call rfl rfl rfl ((w_lines (F := askedF) (enc := encK H0 g gc) hG2 (by kernel_rfl) (fun ks x hx => (w_names1 hx (encK_c ks) (encK_g hne ks)).mono (fun v H' hq => ⟨hq.1, hq.2.trans (encK_put hne _ _)⟩) (fun _ _ h => h)) hlen hks).mono (fun v H2 hq => ?_) (fun _ _ h => h.elim)))
  obtain ⟨rfl, rfl⟩ := hq
  refine WpOps.nil ?_
  refine WpC.seqR ?_
  refine WpOps.pn 1 rfl trivial ?_
  refine WpOps.consG rfl rfl (WpO.call rfl rfl rfl ((w_world_KnownO (hG2 ks) hkn).mono (fun v H2 hq => ?_) (fun _ _ h => h.elim)))
  obtain ⟨q, H1, hle, own, rfl⟩ := hq
  have hH : Holds H1 [.own 9 1 q (kn.map cS)] H2 := ⟨H1, rfl, own⟩
  refine WpOps.consE (v := .rows 1 (notNames.map cS)) rfl rfl (Exact.litSlice rfl (by kernel_rfl)) ?_
  refine WpOps.consG rfl rfl (WpO.pushT cS kn notNames (i := 0) rfl ekNo hH rfl rfl rfl (.rows _) (fun y _ => one_cS y) (by decide) (by have : notNames.length = 2 := rfl; omega) (by decide) fun p1 H' hH => ?_)
  refine WpOps.consG rfl rfl (WpO.allocT rfl rfl hH fun g5 H' hH => ?_)
  refine WpOps.consG rfl rfl (WpO.putT rfl rfl hH (i := 0) rfl rfl rfl rfl rfl rfl rfl fun H' hH => ?_)
  refine WpOps.nil ?_
  refine WpC.ice (t := 5) (i := 0) hH rfl rfl (fun H' hH => ?_)
  obtain ⟨H3, e3, own3⟩ := hH
  have e3 : H3 = H1 := e3
  subst e3
  refine WpC.up (t := 5) (u := .rop [.rows 1 ((kn ++ notNames).map cS)]) (Up.rop1 (Own.up own3)) ?_
  have hcell := hle _ _ (encK_c ks)
  have hmap := hle _ _ (encK_g hne ks)
  refine WpC.seqR ?_
  refine WpOps.consE (v := .lit (.map (some g))) rfl rfl (Exact.load rfl rfl hcell rfl rfl) ?_
  refine WpOps.consG rfl rfl (WpO.call rfl rfl rfl ((w_words_sortedO hnd (by omega) hmap).mono (fun v H2 hq => ?_) (fun _ _ h => h.elim)))
  obtain ⟨q2, H4, hle4, own4, rfl⟩ := hq
  refine WpOps.pn 1 rfl trivial ?_
  refine WpOps.consG rfl rfl (WpO.call rfl rfl rfl ((w_DeleteFunc (p := fun y => decide (y ∈ kn ++ notNames)) (by kernel_rfl) (fun H y => w_names2 (by rw [List.length_append]; have : notNames.length = 2 := rfl; omega)) (by unfold sortS; rw [List.length_mergeSort]; omega) own4).mono (fun v H2 hq => ?_) (fun _ _ h => h.elim)))
  obtain ⟨q5, own5, rfl⟩ := hq
  generalize hout : ((sortS ks).filter fun n => !decide (n ∈ kn ++ notNames)) = out at *
  refine WpOps.pn 1 rfl trivial ?_
  refine WpOps.nil ?_
  refine WpC.seq ?_
  refine WpC.seqR ?_
  refine WpOps.pn 2 rfl trivial ?_
  refine WpOps.at 20 (len_map _ _) ?_
  refine WpOps.pn 1 rfl trivial ?_
  refine WpOps.nil ?_
  have hleA : H0.le H4 := Heap.le_trans (hl0 ks) (Heap.le_trans hle hle4)
  refine WpC.condB rfl (fun hb => ?_) (fun hb => ?_)
  · have hb : 8 < out.length := by
      have : (8 : Int) < (out.length : Int) := by simpa using hb
      omega
    rw [if_pos hb] at h
    obtain rfl := Sh.some_inj h
    refine WpC.seqR ?_
    refine WpOps.pn 2 rfl trivial ?_
    refine WpOps.nil ?_
    refine WpC.ret ?_
    exact VEnds.ret2 rfl rfl rfl ⟨_, H0, Up.tup2 (own_up2 (t := 9) (Vc.Own.nil rfl) (Heap.le_trans hleA own5.le)) (Up.drop (Heap.le_trans hleA own5.le) _), rfl, rfl⟩
  · have hb : ¬ 8 < out.length := by
      have : ¬ (8 : Int) < (out.length : Int) := by simpa using hb
      omega
    rw [if_neg hb] at h
    obtain rfl := Sh.some_inj h
    refine WpC.skip ?_
    refine WpC.seqR ?_
    refine WpOps.pn 3 rfl trivial ?_
    refine WpOps.nil ?_
    refine WpC.ret ?_
    exact VEnds.ret2 rfl rfl rfl ⟨_, H0, Up.tup2 (own_up2 own5 hleA) (Up.drop (Heap.le_trans hleA own5.le) _), rfl, rfl⟩
end Go.Proofs.YtdbcklichbiihaaDoor
