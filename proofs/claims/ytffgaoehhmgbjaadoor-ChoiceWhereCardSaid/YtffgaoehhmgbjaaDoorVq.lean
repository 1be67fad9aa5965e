/-
  Rows that list package-level variables: tables of strings; the builder with what is listed and the world's shape.
-/
import Derived.Test.YtffgaoehhmgbjaaDoorVo
import Derived.HandedShaped
import Derived.LaidMore
import Derived.MakeChecks
import Derived.OpenShut
import Derived.ChangeArms
set_option linter.unusedVariables false
set_option linter.unusedSimpArgs false
namespace Go.Vc
open Go Go.RowKit Go.WideShapes Go.ChangeShapes Go.ChangeAt
theorem returnsInHanded_laid_shaped {H : Type} {enc : TypeId × Value → H} {a : Assume} {C : Checked} {os : Os} {f : FuncId} {fn : Func} {s : ChangeSpec} {conds : List PathCond} {apart fresh handsOn again : Bool} {X : World → Array Value → Prop}
    (hX : ∀ (w w' : World) (args : Array Value), w.heap = w'.heap → X w args → X w' args)
    (own : ownKnob C.prog.godebug = none) (started : os.Started) (noInit : C.prog.inits.idxOf? f = none) (hfn : C.prog.funcs[f]? = some fn)
    (witness : ∃ (w : World) (tape : Tape) (i : Input), w.os = os ∧ (w.forCall tape i).Shaped C.prog ∧ i.vars = [] ∧ Input.okWide C.prog (w.forCall tape i) .any w.heap.size f i ∧
      ((s.pre enc C.prog fn conds apart (w.forCall tape i).memory i.args ∧ X (w.forCall tape i).memory i.args) ∧ sizedMet enc C.prog fn (OpenSpec.ofChange s) apart (w.forCall tape i).memory i.args) ∧ a.holds C.prog (lone (Frame.enter C.prog f i.args .normal) [] (w.forCall tape i)))
    (contract : ∀ (W : World) (base : Nat) (args : Array Value) (ds gs : List (DataW H)) (before : List MemPlace),
      (∀ (j : Nat) t v, fn.params[j]? = some t → args[j]? = some v → Value.okWide C.prog W .any base t v) →
      DataW.Whole enc C.prog fn.params.toList s.vars apart W args.toList ds gs before → X W args → W.ShapedOpen C.prog →
      Calls C.prog f args W fun e W' => ∃ v, e = .returned v ∧ s.post enc C.prog fn apart fresh handsOn again W args v W') :
    ReturnsInHanded a C os f .any (fun w args => (s.pre enc C.prog fn conds apart w args ∧ X w args) ∧ sizedMet enc C.prog fn (OpenSpec.ofChange s) apart w args) (s.post enc C.prog fn apart fresh handsOn again) := by
  refine returnsInHanded_of_calls own started noInit witness ?_
  intro w tape i _ hsh _ hok hpre hholds
  obtain ⟨_, _, _, fn', hfn', _, _, _, _, hval⟩ := hok
  have e : fn' = fn := Option.some.inj (hfn'.symm.trans hfn)
  subst e
  obtain ⟨⟨⟨ds, gs, before, hw, hc⟩, hx⟩, hz⟩ := hpre
  have hw' := DataW.Whole.of_heap (w' := w.forCall tape i) (by rfl) hw
  refine (contract (w.forCall tape i) w.heap.size i.args ds gs before hval hw' (hX _ _ _ (by rfl) hx) hsh).mono fun e W' ⟨v, he, hp⟩ => ?_
  subst he
  exact ChangeSpec.post_blind hp

/-- a table of strings that is listed: its cells -/
def TabS (W : World) (g : Nat) (ss : List (List UInt8)) : Prop := ∃ cur t z, W.heap[g]? = some (.cells cur t z) ∧ ∀ (j : Nat) (u : Value), (ss.map fun l => Value.string ⟨⟨l⟩⟩)[j]? = some u → W.cell? ⟨g, j, none⟩ = some u
theorem tab_of_trod {P : Program} {W : World} {n : String} {g : Nat} {t e : TypeId} {N fuel : Nat} {cs : Array Value} {ss : List (List UInt8)} {p : List MemPlace}
    (hg : P.globalNamed n = some g) (hv : W.var? P n = some cs) (ht : P.underlying t = some (.array N e)) (he : P.underlying e = some .string) (hc : P.cellsOf e = 1) (hss : ss ≠ [])
    (h : DataW.trod (fun _ => ()) P W 0 (fun _ => true) false fuel t cs.toList = some (.agg (ss.map fun l => .lit (.string l)), p)) : TabS W g ss := by
  obtain ⟨xs, m, _, hx, hlen, hn, hel⟩ := DataW.trod_array ht h
  simp only [Prod.mk.injEq, DataW.agg.injEq] at hx
  have hcell : ∀ (j : Nat) (u : Value), (ss.map fun l => Value.string ⟨⟨l⟩⟩)[j]? = some u → W.cell? ⟨g, j, none⟩ = some u := by
    intro j u hj
    rw [List.getElem?_map] at hj
    obtain ⟨l, hl, rfl⟩ := Option.map_eq_some_iff.1 hj
    have hjl : j < ss.length := (List.getElem?_eq_some_iff.1 hl).1
    have hxl : ss.length = xs.length := by simpa using congrArg List.length hx.1
    have h1 := hel j (by omega)
    rw [hc, Nat.mul_one] at h1
    have hxj : xs[j]? = some xs[j] := List.getElem?_eq_getElem (by omega)
    rw [hxj] at h1
    obtain ⟨s, h2, h3, _⟩ := DataW.trod_string he h1
    have h4 : (xs.map (·.1))[j]? = some (.lit (.string l)) := by rw [← hx.1, List.getElem?_map, hl]; rfl
    rw [List.getElem?_map, hxj] at h4
    simp only [Option.map_some, Option.some.injEq] at h4
    rw [h3] at h4
    simp only [DataW.lit.injEq, Lit.string.injEq] at h4
    have h5 : cs.toList[j]? = some (.string s) := by
      have := congrArg (fun q => q[0]?) h2
      simpa using this
    have h6 := World.var?_cell hg hv j
    rw [h6]
    rw [Array.getElem?_toList] at h5
    rw [h5, ← h4]
  have h0 : 0 < ss.length := List.length_pos_iff.2 hss
  have hb := hcell 0 (.string ⟨⟨ss[0]⟩⟩) (by rw [List.getElem?_map, List.getElem?_eq_getElem h0]; rfl)
  unfold World.cell? at hb
  simp only at hb
  split at hb
  · rename_i cur t' z hh
    exact ⟨cur, t', z, hh, hcell⟩
  · cases hb
theorem ro_tab {W : World} {g : Nat} {ss : List (List UInt8)} (h : TabS W g ss) : HeapR W (Heap.empty.set g (.ro (ss.map fun l => Value.string ⟨⟨l⟩⟩))) := fun k o hk => by
  by_cases e : k = g
  · subst e
    rw [Heap.set_same] at hk; injection hk with hk; subst hk
    obtain ⟨cur, t, z, hb, hc⟩ := h
    refine ⟨cur, t, z, hb, fun j u hj => ?_⟩
    have := hc j u hj
    unfold World.cell? at this
    simp only [hb] at this
    exact this
  · rw [Heap.set_ne _ _ e] at hk; cases hk
theorem ro_dom2 {H : Heap} {g : Nat} {vs : List Value} (h : ∀ k, ¬ H.dom k) : ∀ k, ¬ (H.set g (.ro vs)).dom k := fun k ⟨o, ho, h1⟩ => by
  by_cases e : k = g
  · subst e; rw [Heap.set_same] at ho; injection ho with ho; subst ho; cases h1
  · rw [Heap.set_ne _ _ e] at ho; exact h k ⟨o, ho, h1⟩
theorem HeapR.set_ro {W : World} {H : Heap} {g : Nat} {vs : List Value} (hd : ∀ k, ¬ H.dom k) (h : HeapR W H) (h1 : HeapR W (Heap.empty.set g (.ro vs))) : HeapR W (H.set g (.ro vs)) := by
  have e1 : (H.set g (.ro vs)).dom = H.dom := by funext k; simp [ro_dom2 hd k, hd k]
  have e2 : (Heap.empty.set g (.ro vs)).dom = H.dom := by funext k; simp [ro_dom k, hd k]
  intro k o hk
  rw [e1]
  by_cases e : k = g
  · subst e
    rw [Heap.set_same] at hk
    have := h1 k o (by rw [Heap.set_same]; exact hk)
    rw [e2] at this; exact this
  · rw [Heap.set_ne _ _ e] at hk; exact h k o hk
section
variable {P : Program}
theorem law_postV {H : Type} {enc : TypeId × Value → H} {fn : Func} {f : FuncId} {s : ChangeSpec} {W : World} {args : Array Value} {ds gs : List (DataW H)} {before : List MemPlace} {n base : Nat} {bt : TypeId} (hs : lawSpec s fn.params.size)
    (hl : laidOutB P = true) (hrec : fn.params.toList.all (fun t => P.readableRec t && decide (t < P.types.size)) = true) (hpl : fn.params.toList.all (plainT P n) = true) (hres : fn.resultTypes = #[bt]) (hbt : P.underlying bt = some .bool)
    (hval : ∀ (j : Nat) t v, fn.params[j]? = some t → args[j]? = some v → Value.okWide P W .any base t v) (hW : DataW.Whole enc P fn.params.toList s.vars false W args.toList ds gs before)
    {H0 : Heap} (h0 : ∀ g, ¬ H0.dom g) (hH0 : HeapR W H0) (hcall : ∀ xs, ArgsC P n fn.params.toList xs → VRs W noD xs args.toList → TCall P f xs H0 (fun v _ => v = .lit (.bool true)) noE) :
    Calls P f args W fun e W' => ∃ v, e = .returned v ∧ s.post enc P fn false true false false W args v W' := by
  have hW' := hW
  obtain ⟨p, q, hA, hV, rfl, hfz, hnd⟩ := hW
  obtain ⟨xs, g1, g2⟩ := args_typed _ _ _ _ hpl (fun j t v h1 h2 => hval j t v (by simpa using h1) (by simpa using h2)) hA
  have hemp : (noD : Nat → Prop) = H0.dom := by funext g; simp [noD, h0 g]
  have g1' := g1
  rw [hemp] at g1
  have := hcall xs g2 g1' args.toList W g1 hH0
  rw [Array.toArray_toList] at this
  have hq : gs = [] ∧ q = [] := by
    rw [hs.1] at hV
    exact trodVars_none hV
  obtain ⟨rfl, rfl⟩ := hq
  refine this.mono fun e W' ⟨H', ev, hh, r⟩ => ?_
  cases e with
  | panicked ch => exact r.elim
  | outgrown => exact r.elim
  | returned u =>
    obtain ⟨v, hv, rfl⟩ := r
    obtain rfl := hv.lit_inv
    refine ⟨_, rfl, ?_⟩
    have hb := ev.below h0
    have hlen : ds.length = fn.params.size := by
      have : ∀ (ts : List TypeId) (vs : List Value) (ds : List (DataW H)) (ps : List MemPlace), DataW.TrodAll enc P W 0 (fun _ => true) true ts vs ds ps → ds.length = ts.length := by
        intro ts
        induction ts with
        | nil => intro vs ds ps h; cases vs <;> cases ds <;> simp_all [DataW.TrodAll]
        | cons t ts ih =>
          intro vs ds ps h
          cases vs <;> cases ds <;> simp only [DataW.TrodAll] at h
          obtain ⟨_, _, _, h2, _⟩ := h
          simp [ih _ _ _ h2]
      simpa using this _ _ _ _ hA
    have hfn : s.fn H (ds ++ []) = { results := [.lit (.bool true)], args := ds } := by rw [List.append_nil]; exact hs.2 H ds hlen
    have hlt : ∀ x ∈ p, x.block < W.heap.size := fun x hx => hW'.lt x (by simp [hx])
    have hargs : ∀ (ts : List TypeId) (vs : List Value) (ds : List (DataW H)) (ps : List MemPlace), ts.all (fun t => P.readableRec t && decide (t < P.types.size)) = true → DataW.TrodAll enc P W 0 (fun _ => true) true ts vs ds ps → (∀ x ∈ ps, x.block < W.heap.size) → ∀ sp : Nat → Bool, (∀ x ∈ ps, sp x.block = true) → DataW.TrodAll enc P W' 0 sp true ts vs ds ps := by
      intro ts
      induction ts with
      | nil => intro vs ds ps _ h _ sp _; cases vs <;> cases ds <;> simp_all [DataW.TrodAll]
      | cons t ts ih =>
        intro vs ds ps hr h hl' sp hsp
        cases vs <;> cases ds <;> simp only [DataW.TrodAll] at h
        obtain ⟨p1, p2, h1, h2, rfl⟩ := h
        simp only [List.all_cons, Bool.and_eq_true, decide_eq_true_eq] at hr
        refine ⟨p1, p2, ?_, ih _ _ _ hr.2 h2 (fun x hx => hl' x (by simp [hx])) sp (fun x hx => hsp x (by simp [hx])), rfl⟩
        exact WideElems.Trod_stays hl hr.1.1 hr.1.2 h1 (fun x hx => hb.same (hl' x (by simp [hx]))) (fun x hx => hsp x (by simp [hx]))
    have hlt' : ∀ x ∈ p ++ [], x.block < W.heap.size := fun x hx => hlt x (by simpa using hx)
    have hold : ∀ x ∈ p ++ [], (fun b => decide (b < W.heap.size)) x.block = true := fun x hx => by simpa using hlt' x hx
    have hR : ∀ (b : Nat) (sp : Nat → Bool) (hd : Bool), DataW.TrodAll enc P W' b sp hd fn.resultTypes.toList ((Value.bool true).resultList fn.resultTypes.size) [.lit (.bool true)] [] := fun b sp hd => by
      rw [hres]; exact trodAll_cons_mk (shut_bool hbt true) trodAll_mk0
    refine ⟨ds, [], p ++ [], [], p, [], hW', ?_, ?_, ?_, World.keptBut_mono (fun x hx => ⟨hx, .inr (.inl (by simpa using hx))⟩) (hb.frame (· ∈ p ++ [])), fun _ => ?_⟩
    · rw [hfn]; exact hR _ _ _
    · rw [hfn]; exact hargs _ _ _ _ hrec hA hlt _ (fun x hx => hold x (by simpa using hx))
    · rw [hs.1]; rw [hfn]; rfl
    · refine ⟨ok_one hres rfl (okWide_bool_mk hbt true), _, _, ([] ++ p) ++ [], ⟨[] ++ p, [], trodAll_append (hargs _ _ _ _ hrec hA hlt _ (fun _ _ => rfl)) (hR _ _ _), (show DataW.TrodVars enc P W' (fun _ => true) s.vars [] [] from by rw [hs.1]; rfl), rfl, ?_, ?_⟩, ?_⟩
      · intro b off hp
        have hin : MemPlace.cell b off ∈ p ++ [] := by simpa using hp
        rw [hb.frozen (hlt' _ hin)]
        exact hfz b off hin
      · intro ha; cases ha
      · intro x hx _
        simpa using hx
end
/-- with the room that arguments take -/
theorem returnsInHanded_laid_sized {H : Type} {enc : TypeId × Value → H} {a : Assume} {C : Checked} {os : Os} {f : FuncId} {fn : Func} {s : ChangeSpec} {conds : List PathCond} {apart fresh handsOn again : Bool} {X : World → Array Value → Prop}
    (hX : ∀ (w w' : World) (args : Array Value), w.heap = w'.heap → X w args → X w' args)
    (own : ownKnob C.prog.godebug = none) (started : os.Started) (noInit : C.prog.inits.idxOf? f = none) (hfn : C.prog.funcs[f]? = some fn)
    (witness : ∃ (w : World) (tape : Tape) (i : Input), w.os = os ∧ (w.forCall tape i).Shaped C.prog ∧ i.vars = [] ∧ Input.okWide C.prog (w.forCall tape i) .any w.heap.size f i ∧
      ((s.pre enc C.prog fn conds apart (w.forCall tape i).memory i.args ∧ X (w.forCall tape i).memory i.args) ∧ sizedMet enc C.prog fn (OpenSpec.ofChange s) apart (w.forCall tape i).memory i.args) ∧ a.holds C.prog (lone (Frame.enter C.prog f i.args .normal) [] (w.forCall tape i)))
    (contract : ∀ (W : World) (base : Nat) (args : Array Value) (ds gs : List (DataW H)) (before : List MemPlace),
      (∀ (j : Nat) t v, fn.params[j]? = some t → args[j]? = some v → Value.okWide C.prog W .any base t v) →
      DataW.Whole enc C.prog fn.params.toList s.vars apart W args.toList ds gs before → X W args → W.ShapedOpen C.prog →
      (DataW.weightsEach C.prog (fn.params.toList ++ s.plain.varTypes C.prog) (ds ++ gs)).all (· ≤ reachBytes) = true →
      Calls C.prog f args W fun e W' => ∃ v, e = .returned v ∧ s.post enc C.prog fn apart fresh handsOn again W args v W') :
    ReturnsInHanded a C os f .any (fun w args => (s.pre enc C.prog fn conds apart w args ∧ X w args) ∧ sizedMet enc C.prog fn (OpenSpec.ofChange s) apart w args) (s.post enc C.prog fn apart fresh handsOn again) := by
  refine returnsInHanded_of_calls own started noInit witness ?_
  intro w tape i _ hsh _ hok hpre hholds
  obtain ⟨_, _, _, fn', hfn', _, _, _, _, hval⟩ := hok
  have e : fn' = fn := Option.some.inj (hfn'.symm.trans hfn)
  subst e
  obtain ⟨⟨⟨ds, gs, before, hw, hc⟩, hx⟩, hz⟩ := hpre
  have hw' := DataW.Whole.of_heap (w' := w.forCall tape i) (by rfl) hw
  refine (contract (w.forCall tape i) w.heap.size i.args ds gs before hval hw' (hX _ _ _ (by rfl) hx) hsh (hz.weights hw)).mono fun e W' ⟨v, he, hp⟩ => ?_
  subst he
  exact ChangeSpec.post_blind hp
/-- how long the slice is that came in first -/
theorem first_len {H : Type} {enc : TypeId × Value → H} {P : Program} {W : World} {spare : Nat → Bool} {held : Bool} {t e : TypeId} {ts : List TypeId} {args : List Value} {ds : List (DataW H)} {ps : List MemPlace} {size b : Nat} {es : List (List AV)} {xs : List AV}
    (hA : DataW.TrodAll enc P W 0 spare held (t :: ts) args ds ps) (hu : P.underlying t = some (.slice e)) (hv : VRs W noD (.rows size es :: xs) args) (hb : P.bytesOf e = b)
    (hw : (DataW.weightsEach P (t :: ts) ds).all (· ≤ reachBytes) = true) : es.length * b ≤ reachBytes := by
  obtain ⟨u, us, rfl, h1, h2⟩ := hv.cons_inv
  cases ds with
  | nil => simp [DataW.TrodAll] at hA
  | cons d ds =>
    simp only [DataW.TrodAll] at hA
    obtain ⟨p1, p2, ⟨fuel, hA⟩, _, _⟩ := hA
    simp only [DataW.weightsEach, List.all_append, Bool.and_eq_true] at hw
    rcases h1.rows_inv with ⟨h, _⟩ | ⟨ad, cap, us', e1, g1, g2, g3, g4, g5⟩
    · rw [h]; simp
    · subst e1
      have hA : DataW.trod enc P W 0 spare held fuel t [.slice (some ad) es.length cap] = some (d, p1) := by simpa [Value.cells] using hA
      rcases DataW.trod_slice hu hA with ⟨hc, hx⟩ | ⟨a, len, cap', elems, rest, n, _, hcs, hx, _, hl, _, hlen, hel, _⟩
      · simp at hc
      · simp only [List.cons.injEq, Value.slice.injEq, Option.some.injEq, and_true] at hcs
        obtain ⟨-, rfl, -⟩ := hcs
        simp only [Prod.mk.injEq] at hx
        obtain ⟨rfl, -⟩ := hx
        have h3 := hw.1
        simp only [DataW.weights, hu, List.all_cons, Bool.and_eq_true, decide_eq_true_eq, hb, List.length_map] at h3
        have h4 := h3.1
        have h5 : elems.length = es.length := by simpa using hlen
        rw [h5] at h4
        exact Nat.le_trans (Nat.mul_le_mul_right _ (Nat.le_add_right _ _)) h4
end Go.Vc
