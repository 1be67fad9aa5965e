/-
  Part of the proof of If.
-/
import Derived.Test.YtgmpeddopfnioaaGreatDoorRows
import Derived.Test.YtgmpeddopfnioaaGreatDoorCards
import Derived.Test.YtgmpeddopfnioaaGreatDoorTie
import Derived.Test.YtgmpeddopfnioaaGreatDoorQiVox
import Derived.Test.YtgmpeddopfnioaaGreatDoorQiTyzx
import Derived.Test.YtgmpeddopfnioaaGreatDoorQiLi
import Derived.Test.YtgmpeddopfnioaaGreatDoorQiShelf
import Derived.ProofKit
import Derived.HandedShaped
import Derived.Lay
import Derived.LaidHandle

set_option linter.unusedVariables false
set_option linter.unusedSimpArgs false
set_option maxRecDepth 100000
namespace Go.Proofs.YtgmpeddopfnioaaGreatDoor
open Go Go.ChangeShapes Go.WideShapes Go.ChangeAt Go.RowKit Go.Vc
theorem Tryz.own : ownKnob Tryz.prog.godebug = none := by kernel_rfl
theorem Tryz.laidOut : laidOutB Tryz.prog = true := by kernel_rfl
theorem Tryz.maxLen {W : World} (h : W.ShapedOpen Tryz.prog) : ∃ m, W.cell? ⟨2, 0, none⟩ = some (.int .i64 m) := Tryz.laysM143.s1_3 W h
def TabV (W : World) (g : Nat) (vs : List Value) : Prop := ∃ cur t z, W.heap[g]? = some (.cells cur t z) ∧ ∀ (j : Nat) (u : Value), vs[j]? = some u → W.cell? ⟨g, j, none⟩ = some u
theorem tabV_of {W : World} {g : Nat} {vs : List Value} (h0 : vs ≠ []) (h : ∀ (j : Nat) (u : Value), vs[j]? = some u → W.cell? ⟨g, j, none⟩ = some u) : TabV W g vs := by
 have h0 : 0 < vs.length := List.length_pos_iff.2 h0
 have hb := h 0 vs[0] (List.getElem?_eq_getElem h0)
 unfold World.cell? at hb
 simp only at hb
 split at hb
 ·rename_i cur t' z hh
  exact ⟨cur, t', z, hh, h⟩
 ·cases hb
theorem tabI_of_trod {P : Program} {W : World} {n : String} {g : Nat} {t e : TypeId} {N fuel : Nat} {cs : Array Value} {k : IntKind} {ns : List Int} {p : List MemPlace}
  (hg : P.globalNamed n = some g) (hv : W.var? P n = some cs) (ht : P.underlying t = some (.array N e)) (he : P.underlying e = some (.int k)) (hc : P.cellsOf e = 1) (hss : ns ≠ [])
  (h : DataW.trod (fun _ => ()) P W 0 (fun _ => true) false fuel t cs.toList = some (.agg (ns.map fun l => .lit (.int k l)), p)) : TabV W g (ns.map fun l => Value.int k l) := by
 obtain ⟨xs, m, _, hx, hlen, hn, hel⟩ := DataW.trod_array ht h
 simp only [Prod.mk.injEq, DataW.agg.injEq] at hx
 refine tabV_of (by simpa using hss) ?_
 intro j u hj
 rw [List.getElem?_map] at hj
 obtain ⟨l, hl, rfl⟩ := Option.map_eq_some_iff.1 hj
 have hjl : j < ns.length := (List.getElem?_eq_some_iff.1 hl).1
 have hxl : ns.length = xs.length := by simpa using congrArg List.length hx.1
 have h1 := hel j (by omega)
 rw [hc, Nat.mul_one] at h1
 have hxj : xs[j]? = some xs[j] := List.getElem?_eq_getElem (by omega)
 rw [hxj] at h1
 obtain ⟨s, h2, h3, _⟩ := DataW.trod_int he h1
 have h4 : (xs.map (·.1))[j]? = some (.lit (.int k l)) := by rw [← hx.1, List.getElem?_map, hl]; rfl
 rw [List.getElem?_map, hxj] at h4
 simp only [Option.map_some, Option.some.injEq] at h4
 rw [h3] at h4
 simp only [DataW.lit.injEq, Lit.int.injEq, true_and] at h4
 have h5 : cs.toList[j]? = some (.int k s) := by
  have := congrArg (fun q => q[0]?) h2
  simpa using this
 have h6 := World.var?_cell hg hv j
 rw [h6]
 rw [Array.getElem?_toList] at h5
 rw [h5, ← h4]
theorem ro_tabV {W : World} {g : Nat} {vs : List Value} (h : TabV W g vs) : HeapR W (Heap.empty.set g (.ro vs)) := fun k o hk => by
  by_cases e : k = g
  · subst e
    rw [uO] at hk; injection hk with hk; subst hk
    obtain ⟨cur, t, z, hb, hc⟩ := h
    refine ⟨cur, t, z, hb, fun j u hj => ?_⟩
    have := hc j u hj
    unfold World.cell? at this
    simp only [hb] at this
    exact this
  · rw [uS _ _ e] at hk; cases hk
abbrev laidAll : List (String × DataW Unit) := [("emend/direct.words", Rows.laid_emend_direct_words), ("unicode/utf8.acceptRanges", Rows.laid_unicode_utf8_acceptRanges), ("errors.errorType", Rows.laid_errors_errorType), ("unicode.White_Space", Rows.laid_unicode_White_Space), ("strings.asciiSpace", Rows.laid_strings_asciiSpace), ("emend/pptok.signs", Rows.laid_emend_pptok_signs), ("unicode/utf8.first", Rows.laid_unicode_utf8_first)]
abbrev laidSix : List (String × DataW Unit) := [("emend/direct.words", Rows.laid_emend_direct_words), ("unicode/utf8.acceptRanges", Rows.laid_unicode_utf8_acceptRanges), ("unicode.White_Space", Rows.laid_unicode_White_Space), ("strings.asciiSpace", Rows.laid_strings_asciiSpace), ("emend/pptok.signs", Rows.laid_emend_pptok_signs), ("unicode/utf8.first", Rows.laid_unicode_utf8_first)]
def hdl : Value := .iface 156 (.agg #[.pointer (some ⟨9, 73, none⟩)])
noncomputable def witBase (os : Os) : World :=
 let w0 := World.holding Tryz.prog os ⟨#[], #[], []⟩
 { w0 with heap := w0.heap.modify 0 fun
   | .cells _ t frozen => .cells #[hdl] t frozen
   | o => o }
noncomputable def wit (os : Os) : World := (witBase os).layVars Tryz.prog laidSix
theorem wit_os (os : Os) : (wit os).os = os := World.layVars_os _ _ _
theorem laidSix_met (os : Os) (args : Array Value) : laidMet Tryz.prog laidSix ((wit os).forCall (fun _ _ => 0) ⟨#[], args, []⟩).memory := by
 have e1 : (laidSix.filter fun x => (laidSix.map (·.1)).contains x.1) = laidSix := List.filter_eq_self.2 fun x hx => List.contains_iff_mem.2 (List.mem_map.2 ⟨x, hx, rfl⟩)
 have e2 : (laidSix.filter fun x => !(laidSix.map (·.1)).contains x.1) = [] := List.filter_eq_nil_iff.2 fun x hx => by rw [List.contains_iff_mem.2 (List.mem_map.2 ⟨x, hx, rfl⟩)]; simp
 have h : laidMet Tryz.prog laidSix (wit os) := laidMet_layVars (w0 := witBase os) (laidSix.map (·.1)) [] (by rw [e1]; rfl) (by rw [e1]; kernel_rfl) (by rw [e1]; kernel_rfl) (by rw [e2]; exact LaidIn.none)
 exact h.of_heap (by simp [World.memory, World.forCall, Input.heap])
theorem door_met (os : Os) (args : Array Value) : laidMetH Tryz.prog laidAll ((wit os).forCall (fun _ _ => 0) ⟨#[], args, []⟩).memory :=
 laidMetH_of_parts (laidSix_met os args) (by kernel_rfl)
theorem g_err : Tryz.prog.globalNamed "errors.errorType" = some 0 := by kernel_rfl
theorem rt_err : (Tryz.prog.cutTypes.find? (·.1 == "internal/reflectlite.rtype")).map (·.2) = some 156 := by kernel_rfl
theorem oneRow : ((List.range 366).filter fun t => Tryz.prog.rowNamed t [101, 114, 114, 111, 114]) = [73] := by kernel_rfl
theorem types_size : Tryz.prog.types.size = 366 := by kernel_rfl
theorem handle_of_laid {W : World} (h : laidMetH Tryz.prog laidAll W) : TabV W 0 [hdl] := by
 have h' : laidMet Tryz.prog laidSix W ∧ handlesMet Tryz.prog [("errors.errorType", Rows.laid_errors_errorType)] W := h
 obtain ⟨name, u, ty, e1, e2, e3, e4, e5⟩ := h'.2 _ (List.mem_singleton.2 rfl)
 have en : name = [101, 114, 114, 111, 114] := (Option.some.inj e1).symm
 subst en
 obtain rfl := Option.some.inj (rt_err.symm.trans e2)
 have hm : ty ∈ (List.range 366).filter fun t => Tryz.prog.rowNamed t [101, 114, 114, 111, 114] := List.mem_filter.2 ⟨List.mem_range.2 (by rw [← types_size]; exact e3), e4⟩
 rw [oneRow] at hm
 obtain rfl := List.mem_singleton.1 hm
 have hh : typeHandle Tryz.prog 73 = .pointer (some ⟨9, 73, none⟩) := by kernel_rfl
 rw [hh] at e5
 refine tabV_of (by simp) fun j u hj => ?_
 rw [World.var?_cell g_err e5 j]
 simpa [hdl] using hj
theorem g_signs : Tryz.prog.globalNamed "emend/pptok.signs" = some 1 := by kernel_rfl
theorem gt_signs : (Tryz.prog.globals[1]?).map (·.type) = some 192 := by kernel_rfl
theorem d_signs : (Rows.laid_emend_pptok_signs : DataW Unit) = .agg (Sh.signs.map fun l => .lit (.string l)) := rfl
theorem g_words : Tryz.prog.globalNamed "emend/direct.words" = some 3 := by kernel_rfl
theorem gt_words : (Tryz.prog.globals[3]?).map (·.type) = some 214 := by kernel_rfl
theorem d_words : (Rows.laid_emend_direct_words : DataW Unit) = .agg (Sh.words.map fun l => .lit (.string l)) := rfl
theorem g_sp : Tryz.prog.globalNamed "strings.asciiSpace" = some 4 := by kernel_rfl
theorem gt_sp : (Tryz.prog.globals[4]?).map (·.type) = some 237 := by kernel_rfl
def spNs : List Int := (List.range 256).map fun c => if Lib.isSp (UInt8.ofNat c) then 1 else 0
theorem d_sp : (Rows.laid_strings_asciiSpace : DataW Unit) = .agg (spNs.map fun l => .lit (.int .u8 l)) := by kernel_rfl
theorem spTab_eq : spTab = spNs.map fun l => Value.int .u8 l := by unfold spTab spNs; rw [List.map_map]; rfl
theorem tabs_of_laid {W : World} (h : laidMetH Tryz.prog laidAll W) : TabS W 1 Sh.signs ∧ TabS W 3 Sh.words ∧ TabV W 4 spTab ∧ TabV W 0 [hdl] := by
 have hh := handle_of_laid h
 have h' : laidMet Tryz.prog laidSix W ∧ handlesMet Tryz.prog [("errors.errorType", Rows.laid_errors_errorType)] W := h
 obtain ⟨ps, h, _⟩ := h'.1
 obtain ⟨g0, t0, cs0, f0, p0, q0, hg0, ht0, hv0, hd0, h, _⟩ := h
 obtain rfl := Option.some.inj (g_words.symm.trans hg0)
 obtain rfl := Option.some.inj (gt_words.symm.trans ht0)
 rw [d_words] at hd0
 obtain ⟨g1, t1, cs1, f1, p1, q1, hg1, ht1, hv1, hd1, h, _⟩ := h
 obtain ⟨g2, t2, cs2, f2, p2, q2, hg2, ht2, hv2, hd2, h, _⟩ := h
 obtain ⟨g3, t3, cs3, f3, p3, q3, hg3, ht3, hv3, hd3, h, _⟩ := h
 obtain rfl := Option.some.inj (g_sp.symm.trans hg3)
 obtain rfl := Option.some.inj (gt_sp.symm.trans ht3)
 rw [d_sp] at hd3
 obtain ⟨g4, t4, cs4, f4, p4, q4, hg4, ht4, hv4, hd4, h, _⟩ := h
 obtain rfl := Option.some.inj (g_signs.symm.trans hg4)
 obtain rfl := Option.some.inj (gt_signs.symm.trans ht4)
 rw [d_signs] at hd4
 obtain ⟨g5, t5, cs5, f5, p5, q5, hg5, ht5, hv5, hd5, h, _⟩ := h
 exact ⟨tab_of_trod g_signs hv4 Tryz.underlying192 Tryz.underlying9 (by kernel_rfl) (by decide) hd4, tab_of_trod g_words hv0 Tryz.underlying214 Tryz.underlying9 (by kernel_rfl) (by decide) hd0, spTab_eq ▸ tabI_of_trod g_sp hv3 Tryz.underlying237 Tryz.underlying5 (by kernel_rfl) (by decide) hd3, hh⟩
def H0 (m : Int) : Heap := (((((Heap.empty.set 2 (.ro [.int .i64 m])).set 1 (.ro (Sh.signs.map fun l => Value.string ⟨⟨l⟩⟩))).set 3 (.ro (Sh.words.map fun l => Value.string ⟨⟨l⟩⟩))).set 4 (.ro spTab)).set 0 (.ro [hdl]))
theorem H0_dom (m : Int) : ∀ k, ¬ (H0 m).dom k := ro_dom2 (ro_dom2 (ro_dom2 (ro_dom2 ro_dom)))
theorem H0_heap {W : World} {m : Int} (h : laidMetH Tryz.prog laidAll W) (hm : W.cell? ⟨2, 0, none⟩ = some (.int .i64 m)) : HeapR W (H0 m) := by
 obtain ⟨h1, h2, h3, h4⟩ := tabs_of_laid h
 exact HeapR.set_ro (ro_dom2 (ro_dom2 (ro_dom2 ro_dom))) (HeapR.set_ro (ro_dom2 (ro_dom2 ro_dom)) (HeapR.set_ro (ro_dom2 ro_dom) (HeapR.set_ro ro_dom (ro_heap hm) (ro_tab h1)) (ro_tab h2)) (ro_tabV h3)) (ro_tabV h4)
theorem H0_glob (m : Int) : Glob (H0 m) := ⟨⟨m, by simp [H0, Heap.set, Heap.empty]⟩, by simp [GlobF, H0, Heap.set, Heap.empty], by simp [GlobE, H0, Heap.set, Heap.empty, hdl], by simp [H0, Heap.set, Heap.empty], by simp [H0, Heap.set, Heap.empty]⟩
end Go.Proofs.YtgmpeddopfnioaaGreatDoor
