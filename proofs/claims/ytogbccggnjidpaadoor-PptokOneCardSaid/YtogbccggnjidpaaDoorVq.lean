/-
  Rows that list package-level variables: tables of strings; the builder with what is listed and the world's shape.
-/
import Derived.Test.YtogbccggnjidpaaDoorVo
import Derived.HandedShaped
import Derived.LaidMore
import Derived.MakeChecks
import Derived.OpenShut
import Derived.ChangeArms
set_option linter.unusedVariables false
set_option linter.unusedSimpArgs false
namespace Go.Vc
open Go Go.RowKit Go.WideShapes Go.ChangeShapes Go.ChangeAt
theorem returnsInHanded_laid_shaped {H : Type} {enc : TypeId × Value → H} {a : Assume} {C : Checked} {os : Os} {f : FuncId} {fn : Func} {s : ChangeSpec} {conds : List PathCond} {apart fresh handsOn again : Bool} {X : World → Array Value → Prop}
    (hX : ∀ (w w' : World) (args : Array Value), w.heap = w'.heap → X w args → X w' args)
    (own : ownKnob C.prog.godebug = none) (started : os.Started) (noInit : C.prog.inits.idxOf? f = none) (hfn : C.prog.funcs[f]? = some fn)
    (witness : ∃ (w : World) (tape : Tape) (i : Input), w.os = os ∧ (w.forCall tape i).Shaped C.prog ∧ i.vars = [] ∧ Input.okWide C.prog (w.forCall tape i) .any w.heap.size f i ∧
      ((s.pre enc C.prog fn conds apart (w.forCall tape i).memory i.args ∧ X (w.forCall tape i).memory i.args) ∧ sizedMet enc C.prog fn (OpenSpec.ofChange s) apart (w.forCall tape i).memory i.args) ∧ a.holds C.prog (lone (Frame.enter C.prog f i.args .normal) [] (w.forCall tape i)))
    (contract : ∀ (W : World) (base : Nat) (args : Array Value) (ds gs : List (DataW H)) (before : List MemPlace),
      (∀ (j : Nat) t v, fn.params[j]? = some t → args[j]? = some v → Value.okWide C.prog W .any base t v) →
      DataW.Whole enc C.prog fn.params.toList s.vars apart W args.toList ds gs before → X W args → W.ShapedOpen C.prog →
      Calls C.prog f args W fun e W' => ∃ v, e = .returned v ∧ s.post enc C.prog fn apart fresh handsOn again W args v W') :
    ReturnsInHanded a C os f .any (fun w args => (s.pre enc C.prog fn conds apart w args ∧ X w args) ∧ sizedMet enc C.prog fn (OpenSpec.ofChange s) apart w args) (s.post enc C.prog fn apart fresh handsOn again) := by
  refine returnsInHanded_of_calls own started noInit witness ?_
  intro w tape i _ hsh _ hok hpre hholds
  obtain ⟨_, _, _, fn', hfn', _, _, _, _, hval⟩ := hok
  have e : fn' = fn := Option.some.inj (hfn'.symm.trans hfn)
  subst e
  obtain ⟨⟨⟨ds, gs, before, hw, hc⟩, hx⟩, hz⟩ := hpre
  have hw' := DataW.Whole.of_heap (w' := w.forCall tape i) (by rfl) hw
  refine (contract (w.forCall tape i) w.heap.size i.args ds gs before hval hw' (hX _ _ _ (by rfl) hx) hsh).mono fun e W' ⟨v, he, hp⟩ => ?_
  subst he
  exact ChangeSpec.post_blind hp

/-- a table of strings that is listed: its cells -/
def TabS (W : World) (g : Nat) (ss : List (List UInt8)) : Prop := ∃ cur t z, W.heap[g]? = some (.cells cur t z) ∧ ∀ (j : Nat) (u : Value), (ss.map fun l => Value.string ⟨⟨l⟩⟩)[j]? = some u → W.cell? ⟨g, j, none⟩ = some u
theorem tab_of_trod {P : Program} {W : World} {n : String} {g : Nat} {t e : TypeId} {N fuel : Nat} {cs : Array Value} {ss : List (List UInt8)} {p : List MemPlace}
    (hg : P.globalNamed n = some g) (hv : W.var? P n = some cs) (ht : P.underlying t = some (.array N e)) (he : P.underlying e = some .string) (hc : P.cellsOf e = 1) (hss : ss ≠ [])
    (h : DataW.trod (fun _ => ()) P W 0 (fun _ => true) false fuel t cs.toList = some (.agg (ss.map fun l => .lit (.string l)), p)) : TabS W g ss := by
  obtain ⟨xs, m, _, hx, hlen, hn, hel⟩ := DataW.trod_array ht h
  simp only [Prod.mk.injEq, DataW.agg.injEq] at hx
  have hcell : ∀ (j : Nat) (u : Value), (ss.map fun l => Value.string ⟨⟨l⟩⟩)[j]? = some u → W.cell? ⟨g, j, none⟩ = some u := by
    intro j u hj
    rw [List.getElem?_map] at hj
    obtain ⟨l, hl, rfl⟩ := Option.map_eq_some_iff.1 hj
    have hjl : j < ss.length := (List.getElem?_eq_some_iff.1 hl).1
    have hxl : ss.length = xs.length := by simpa using congrArg List.length hx.1
    have h1 := hel j (by omega)
    rw [hc, Nat.mul_one] at h1
    have hxj : xs[j]? = some xs[j] := List.getElem?_eq_getElem (by omega)
    rw [hxj] at h1
    obtain ⟨s, h2, h3, _⟩ := DataW.trod_string he h1
    have h4 : (xs.map (·.1))[j]? = some (.lit (.string l)) := by rw [← hx.1, List.getElem?_map, hl]; rfl
    rw [List.getElem?_map, hxj] at h4
    simp only [Option.map_some, Option.some.injEq] at h4
    rw [h3] at h4
    simp only [DataW.lit.injEq, Lit.string.injEq] at h4
    have h5 : cs.toList[j]? = some (.string s) := by
      have := congrArg (fun q => q[0]?) h2
      simpa using this
    have h6 := World.var?_cell hg hv j
    rw [h6]
    rw [Array.getElem?_toList] at h5
    rw [h5, ← h4]
  have h0 : 0 < ss.length := List.length_pos_iff.2 hss
  have hb := hcell 0 (.string ⟨⟨ss[0]⟩⟩) (by rw [List.getElem?_map, List.getElem?_eq_getElem h0]; rfl)
  unfold World.cell? at hb
  simp only at hb
  split at hb
  · rename_i cur t' z hh
    exact ⟨cur, t', z, hh, hcell⟩
  · cases hb
theorem ro_tab {W : World} {g : Nat} {ss : List (List UInt8)} (h : TabS W g ss) : HeapR W (Heap.empty.set g (.ro (ss.map fun l => Value.string ⟨⟨l⟩⟩))) := fun k o hk => by
  by_cases e : k = g
  · subst e
    rw [Heap.set_same] at hk; injection hk with hk; subst hk
    obtain ⟨cur, t, z, hb, hc⟩ := h
    refine ⟨cur, t, z, hb, fun j u hj => ?_⟩
    have := hc j u hj
    unfold World.cell? at this
    simp only [hb] at this
    exact this
  · rw [Heap.set_ne _ _ e] at hk; cases hk
theorem ro_dom2 {H : Heap} {g : Nat} {vs : List Value} (h : ∀ k, ¬ H.dom k) : ∀ k, ¬ (H.set g (.ro vs)).dom k := fun k ⟨o, ho, h1⟩ => by
  by_cases e : k = g
  · subst e; rw [Heap.set_same] at ho; injection ho with ho; subst ho; cases h1
  · rw [Heap.set_ne _ _ e] at ho; exact h k ⟨o, ho, h1⟩
theorem HeapR.set_ro {W : World} {H : Heap} {g : Nat} {vs : List Value} (hd : ∀ k, ¬ H.dom k) (h : HeapR W H) (h1 : HeapR W (Heap.empty.set g (.ro vs))) : HeapR W (H.set g (.ro vs)) := by
  have e1 : (H.set g (.ro vs)).dom = H.dom := by funext k; simp [ro_dom2 hd k, hd k]
  have e2 : (Heap.empty.set g (.ro vs)).dom = H.dom := by funext k; simp [ro_dom k, hd k]
  intro k o hk
  rw [e1]
  by_cases e : k = g
  · subst e
    rw [Heap.set_same] at hk
    have := h1 k o (by rw [Heap.set_same]; exact hk)
    rw [e2] at this; exact this
  · rw [Heap.set_ne _ _ e] at hk; exact h k o hk
end Go.Vc
