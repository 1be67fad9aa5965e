/-
  Part of the proof of Strings.
-/
import Derived.Test.YtgmpeddopfnioaaGreatDoorRows
import Derived.Test.YtgmpeddopfnioaaGreatDoorQsVox
import Derived.Test.YtgmpeddopfnioaaGreatDoorQsTyzx
import Derived.Deep.DeepHandedRow

set_option linter.unusedVariables false
set_option linter.unusedSimpArgs false
namespace Go.Vc
open Go Go.RowKit Go.WideShapes Go.ChangeShapes Go.ChangeAt Go.Proofs.YtgmpeddopfnioaaGreatDoor
mutual
def avB : AV → Nat
 | .lit (.string s) => s.size + 1
 | .lit _ => 1
 | .rows _ es => avBss es + 1
 | _ => 0
def avBs : List AV → Nat
 | [] => 0
 | x :: r => avB x + avBs r
def avBss : List (List AV) → Nat
 | [] => 0
 | e :: r => avBs e + avBss r
end
theorem avBs_append : ∀ (a b : List AV), avBs (a ++ b) = avBs a + avBs b
 | [], b => by simp [avBs]
 | x :: a, b => by simp only [List.cons_append, avBs, avBs_append a b]; omega
theorem bulk_all {H : Type} : ∀ (L : List (List AV)) (E : List (DataW H)), L.length = E.length → (∀ (i : Nat) l d, L[i]? = some l → E[i]? = some d → avBs l ≤ Rows.uptoBulk d) → avBss L ≤ Rows.uptoBulkAll E
 | [], [], _, _ => by simp [avBss]
 | [], _ :: _, h, _ => by simp at h
 | _ :: _, [], h, _ => by simp at h
 | l :: L, d :: E, h, hh => by
  have h1 := hh 0 l d rfl rfl
  have h2 := bulk_all L E (by simpa using h) (fun i l d a b => hh (i + 1) l d (by simpa using a) (by simpa using b))
  simp only [avBss, Rows.uptoBulkAll]; omega
section
variable {H : Type} {enc : TypeId × Value → H} {P : Program} {w : World} {spare : Nat → Bool} {held : Bool}
theorem trod_bulk : ∀ (n fuel : Nat) (t : TypeId) (cs : List Value) (x : DataW H × List MemPlace), plainT P n t = true → DataW.trod enc P w 0 spare held fuel t cs = some x → ∃ xs, VRs w noD xs cs ∧ TypedC P n t xs ∧ avBs xs ≤ Rows.uptoBulk x.1
  | 0, fuel, t, cs, x, hp, h => by simp [plainT] at hp
  | n + 1, 0, t, cs, x, hp, h => by simp [DataW.trod] at h
  | n + 1, fuel + 1, t, cs, x, hp, h => by
    have hx := h
    unfold DataW.trod at h
    unfold plainT at hp
    unfold TypedC
    cases hu : P.underlying t with
    | none => rw [hu] at hp; simp at hp
    | some d =>
      rw [hu] at hp h
      cases d <;> simp only [Bool.false_eq_true] at hp
      case bool =>
        cases cs with
        | nil => simp at h
        | cons v cs =>
          cases v <;> cases cs <;> simp at h
          rename_i b
          subst h
          exact ⟨[.lit (.bool b)], .cons (.lit _) .nil, ⟨b, rfl⟩, by simp [avBs, avB, Rows.uptoBulk]⟩
      case int k =>
        cases cs with
        | nil => simp at h
        | cons v cs =>
          cases v <;> cases cs <;> simp at h
          rename_i k' i
          obtain ⟨⟨rfl, hw⟩, rfl⟩ := h
          exact ⟨[.lit (.int _ i)], .cons (.lit _) .nil, ⟨i, inR_of_wf hw, rfl⟩, by simp [avBs, avB, Rows.uptoBulk]⟩
      case string =>
        cases cs with
        | nil => simp at h
        | cons v cs =>
          cases v <;> cases cs <;> simp at h
          rename_i s
          obtain ⟨⟨l⟩⟩ := s
          obtain ⟨h1, rfl⟩ := h
          exact ⟨[.lit (.string ⟨⟨l⟩⟩)], .cons (.lit _) .nil, ⟨l, h1, rfl⟩, by simp [avBs, avB, Rows.uptoBulk, ByteArray.size]⟩
      case slice e =>
        simp only [Bool.and_eq_true, bne_iff_ne, ne_eq] at hp
        rcases DataW.trod_slice hu hx with ⟨rfl, rfl⟩ | ⟨a, len, cap, elems, rest, m, hm, rfl, rfl, _, hl, hcm, hlen, hel, _⟩
        · exact ⟨[.rows (P.cellsOf e) []], .cons .rows0 .nil, ⟨[], by simp, rfl, fun x hx => by cases hx⟩, by simp [avBs, avB, avBss, Rows.uptoBulk]⟩
        · have hel2 : ∀ i, i < len → ∃ c, w.cells? 0 (a.add (i * P.cellsOf e)) (P.cellsOf e) = some c ∧ ∃ xs, VRs w noD xs c ∧ TypedC P n e xs ∧ ∀ y, elems[i]? = some y → avBs xs ≤ Rows.uptoBulk y.1 := by
            intro i hi
            have h2 := hel i hi
            rw [List.getElem?_eq_getElem (by omega)] at h2
            cases hcs : w.cells? 0 (a.add (i * P.cellsOf e)) (P.cellsOf e) with
            | none => rw [hcs] at h2; cases h2
            | some c =>
              rw [hcs] at h2
              obtain ⟨xs, h3, h4, h5⟩ := trod_bulk n m e c _ hp.1 h2
              exact ⟨c, rfl, xs, h3, h4, fun y hy => by rw [List.getElem?_eq_getElem (by omega)] at hy; injection hy with hy; rw [← hy]; exact h5⟩
          have hch : ∃ (css : Nat → List Value) (xss : Nat → List AV), ∀ i, i < len → w.cells? 0 (a.add (i * P.cellsOf e)) (P.cellsOf e) = some (css i) ∧ VRs w noD (xss i) (css i) ∧ TypedC P n e (xss i) ∧ ∀ y, elems[i]? = some y → avBs (xss i) ≤ Rows.uptoBulk y.1 := by
            refine ⟨fun i => if hi : i < len then Classical.choose (hel2 i hi) else [], fun i => if hi : i < len then Classical.choose (Classical.choose_spec (hel2 i hi)).2 else [], fun i hi => ?_⟩
            simp only [hi, dif_pos]
            exact ⟨(Classical.choose_spec (hel2 i hi)).1, Classical.choose_spec (Classical.choose_spec (hel2 i hi)).2⟩
          obtain ⟨css, xss, hch⟩ := hch
          refine ⟨[.rows (P.cellsOf e) ((List.range len).map xss)], .cons (rows_of hl _ css (by simp) (fun i hi => ?_)) .nil, ⟨_, by simp; omega, rfl, fun q hq => ?_⟩, ?_⟩
          · obtain ⟨h1, h2⟩ := cells?_get (hch i hi).1
            exact ⟨h1, h2, xss i, by rw [List.getElem?_map, List.getElem?_range hi]; rfl, (hch i hi).2.1⟩
          · obtain ⟨i, hi, rfl⟩ := List.mem_map.1 hq
            exact (hch i (List.mem_range.1 hi)).2.2.1
          · have := bulk_all ((List.range len).map xss) (elems.map (·.1)) (by simp; omega) (fun i l d h1 h2 => by
              rw [List.getElem?_map] at h1 h2
              have hi : i < len := by
                cases hr : (List.range len)[i]? with
                | none => rw [hr] at h1; cases h1
                | some q => have := (List.getElem?_eq_some_iff.1 hr).1; simpa using this
              rw [List.getElem?_range hi] at h1
              cases hy : elems[i]? with
              | none => rw [hy] at h2; cases h2
              | some y =>
                rw [hy] at h2
                simp only [Option.map_some, Option.some.injEq] at h1 h2
                subst h1; subst h2
                exact (hch i hi).2.2.2 y hy)
            simp only [avBs, avB, Rows.uptoBulk]; omega
      case struct fs =>
        simp only [Bool.and_eq_true, beq_iff_eq, List.all_eq_true] at hp
        obtain ⟨ys, m, hm, rfl, hcl, hyl, hy⟩ := DataW.trod_struct hu hx
        have go : ∀ (l : List Field) (zs : List (DataW H × List MemPlace)) (o : Nat), offsOk P o l = some (P.cellsOf t) → l.length = zs.length → (∀ (i : Nat) f z, l[i]? = some f → zs[i]? = some z → DataW.trod enc P w 0 spare held m f.type ((cs.drop f.offset).take (P.cellsOf f.type)) = some z ∧ plainT P n f.type = true) → ∃ xs, VRs w noD xs (cs.drop o) ∧ FieldsC (TypedC P n) l xs ∧ avBs xs ≤ Rows.uptoBulkAll (zs.map (·.1)) := by
          intro l
          induction l with
          | nil =>
            intro zs o ho _ _
            simp only [offsOk, Option.some.injEq] at ho
            refine ⟨[], ?_, rfl, by simp [avBs]⟩
            rw [List.drop_eq_nil_of_le (by omega)]; exact .nil
          | cons f l ih =>
            intro zs o ho hl hf
            cases zs with
            | nil => simp at hl
            | cons z zs =>
              simp only [offsOk] at ho
              split at ho
              case isFalse => cases ho
              rename_i hfo
              obtain ⟨hy, hpl⟩ := hf 0 f z rfl rfl
              obtain ⟨xs, h1, h2, h5⟩ := trod_bulk n m f.type _ z hpl hy
              obtain ⟨bs, h3, h4, h6⟩ := ih zs _ ho (by simpa using hl) (fun i g y a b => hf (i + 1) g y (by simpa using a) (by simpa using b))
              refine ⟨xs ++ bs, ?_, ⟨xs, bs, rfl, h2, h4⟩, ?_⟩
              · have := h1.append h3
                rw [hfo] at this
                rw [← List.drop_drop, List.take_append_drop] at this
                exact this
              · rw [avBs_append, List.map_cons]; simp only [Rows.uptoBulkAll]; omega
        obtain ⟨xs, h1, h2, h3⟩ := go fs.toList ys 0 hp.1 (by simp [hyl]) (fun i f z h1 h2 => by
          have := hy i f (by simpa using h1)
          rw [h2] at this
          exact ⟨this, hp.2 f (List.mem_of_getElem? h1)⟩)
        rw [List.drop_zero] at h1
        exact ⟨xs, h1, h2, by simp only [Rows.uptoBulk]; omega⟩
def avA : AV → Nat
 | .agg cs => avBs cs
 | x => avB x
def avAs : List AV → Nat
 | [] => 0
 | x :: r => avA x + avAs r
theorem args_bulk {n base : Nat} : ∀ (ts : List TypeId) (vs : List Value) (ds : List (DataW H)) (ps : List MemPlace), ts.all (plainT P n) = true → (∀ (j : Nat) t v, ts[j]? = some t → vs[j]? = some v → Value.okWide P w .any base t v) →
    DataW.TrodAll enc P w 0 spare held ts vs ds ps → ∃ xs, VRs w noD xs vs ∧ ArgsC P n ts xs ∧ avAs xs ≤ Rows.uptoBulkAll ds
  | [], [], ds, ps, hp, hok, h => ⟨[], .nil, rfl, by simp [avAs]⟩
  | [], _ :: _, ds, ps, hp, hok, h => by cases ds <;> simp [DataW.TrodAll] at h
  | t :: ts, [], ds, ps, hp, hok, h => by simp [DataW.TrodAll] at h
  | t :: ts, v :: vs, [], ps, hp, hok, h => by simp [DataW.TrodAll] at h
  | t :: ts, v :: vs, d :: ds, ps, hp, hok, h => by
    simp only [List.all_cons, Bool.and_eq_true] at hp
    obtain ⟨p, q, ⟨fuel, h1⟩, h2, _⟩ := h
    obtain ⟨xs, g1, g2, g0⟩ := trod_bulk n fuel t v.cells.toList (d, p) hp.1 h1
    have g0 : avBs xs ≤ Rows.uptoBulk d := g0
    obtain ⟨ys, g3, g4, g7⟩ := args_bulk ts vs ds q hp.2 (fun j t v h1 h2 => hok (j + 1) t v (by simpa using h1) (by simpa using h2)) h2
    have hb : avA (valOf P t xs) ≤ avBs xs := by
      unfold valOf
      cases ha : aggT P t with
      | true => exact Nat.le_refl _
      | false =>
        obtain ⟨x, rfl⟩ := typed_one g2 ha
        have : ∀ x : AV, avA x ≤ avB x ∨ ∃ cs, x = .agg cs := fun x => by cases x <;> simp [avA]
        rcases this x with h | ⟨cs, rfl⟩
        · simp only [Bool.false_eq_true, if_false, List.headD_cons, avBs]; omega
        · exfalso
          cases n with
          | zero => exact g2
          | succ n =>
            rw [TypedC] at g2
            unfold aggT at ha
            cases hu : P.underlying t with
            | none => rw [hu] at g2; exact g2
            | some dd =>
              rw [hu] at g2 ha
              cases dd <;> simp only [Bool.true_eq_false] at ha <;> simp only at g2
              case bool => obtain ⟨b, e⟩ := g2; simp at e
              case int => obtain ⟨b, _, e⟩ := g2; simp at e
              case string => obtain ⟨b, _, e⟩ := g2; simp at e
              case slice => obtain ⟨b, _, e, _⟩ := g2; simp at e
    refine ⟨valOf P t xs :: ys, .cons ?_ g3, ⟨xs, ys, rfl, g2, g4⟩, by simp only [avAs, Rows.uptoBulkAll]; omega⟩
    have hk := hok 0 t v rfl rfl
    unfold valOf
    cases ha : aggT P t with
    | true =>
      unfold aggT at ha
      unfold Value.okWide at hk
      cases hu : P.underlying t with
      | none => rw [hu] at ha; cases ha
      | some dd =>
        rw [hu] at ha hk
        cases dd <;> simp only [Bool.false_eq_true] at ha <;> (obtain ⟨cs, rfl, _⟩ := hk; exact .agg cs.toList g1.1 g1.2)
    | false =>
      obtain ⟨x, rfl⟩ := typed_one g2 ha
      obtain ⟨u, us, hu, g5, g6⟩ := g1.cons_inv
      obtain rfl := g6.nil_inv
      have : v.cells = #[u] := by apply Array.ext'; simpa using hu
      have hv : v = u := by
        unfold aggT at ha
        unfold Value.okWide at hk
        cases v with
        | agg cs =>
          exfalso
          cases n with
          | zero => exact g2
          | succ n =>
            rw [TypedC] at g2
            cases hu : P.underlying t with
            | none => rw [hu] at g2; exact g2
            | some dd =>
              rw [hu] at ha hk
              cases dd <;> simp only [Bool.true_eq_false] at ha <;> simp [Cell.okWide, Cell.ok] at hk
        | _ => simp [Value.cells] at this; exact this
      rw [hv]
      exact g5
end
theorem law_postU {H : Type} {enc : TypeId × Value → H} {P : Program} {fn : Func} {f : FuncId} {s : ChangeSpec} {W : World} {args : Array Value} {ds gs : List (DataW H)} {before : List MemPlace} {n base : Nat} {bt : TypeId} (hs : lawSpec s fn.params.size)
    (hl : laidOutB P = true) (hrec : fn.params.toList.all (fun t => P.readableRec t && decide (t < P.types.size)) = true) (hpl : fn.params.toList.all (plainT P n) = true) (hres : fn.resultTypes = #[bt]) (hbt : P.underlying bt = some .bool)
    (hval : ∀ (j : Nat) t v, fn.params[j]? = some t → args[j]? = some v → Value.okWide P W .any base t v) (hW : DataW.Whole enc P fn.params.toList s.vars false W args.toList ds gs before)
    (hk : Rows.uptoSmall H (ds ++ gs) = true)
    {H0 : Heap} (h0 : ∀ g, ¬ H0.dom g) (hH0 : HeapR W H0) (hcall : ∀ xs, ArgsC P n fn.params.toList xs → avAs xs ≤ 1048576 → TCall P f xs H0 (fun v _ => v = .lit (.bool true)) noE) :
    Calls P f args W fun e W' => ∃ v, e = .returned v ∧ s.post enc P fn false true false false W args v W' := by
  have hW' := hW
  obtain ⟨p, q, hA, hV, rfl, hfz, hnd⟩ := hW
  obtain ⟨xs, g1, g2, g3⟩ := args_bulk _ _ _ _ hpl (fun j t v h1 h2 => hval j t v (by simpa using h1) (by simpa using h2)) hA
  have g3 : avAs xs ≤ 1048576 := by
    have hb : Rows.uptoBulkAll (ds ++ gs) ≤ 1048576 := of_decide_eq_true hk
    have happ : ∀ (a b : List (DataW H)), Rows.uptoBulkAll a ≤ Rows.uptoBulkAll (a ++ b) := by
      intro a b
      induction a with
      | nil => simp [Rows.uptoBulkAll]
      | cons x a ih => simp only [List.cons_append, Rows.uptoBulkAll]; omega
    have := happ ds gs; omega
  have hemp : (noD : Nat → Prop) = H0.dom := by funext g; simp [noD, h0 g]
  have g1' := g1
  rw [hemp] at g1
  have := hcall xs g2 g3 args.toList W g1 hH0
  rw [Array.toArray_toList] at this
  have hq : gs = [] ∧ q = [] := by
    rw [hs.1] at hV
    exact trodVars_none hV
  obtain ⟨rfl, rfl⟩ := hq
  refine this.mono fun e W' ⟨H', ev, hh, r⟩ => ?_
  cases e with
  | panicked ch => exact r.elim
  | outgrown => exact r.elim
  | returned u =>
    obtain ⟨v, hv, rfl⟩ := r
    obtain rfl := hv.lit_inv
    refine ⟨_, rfl, ?_⟩
    have hb := ev.below h0
    have hlen : ds.length = fn.params.size := by
      have : ∀ (ts : List TypeId) (vs : List Value) (ds : List (DataW H)) (ps : List MemPlace), DataW.TrodAll enc P W 0 (fun _ => true) true ts vs ds ps → ds.length = ts.length := by
        intro ts
        induction ts with
        | nil => intro vs ds ps h; cases vs <;> cases ds <;> simp_all [DataW.TrodAll]
        | cons t ts ih =>
          intro vs ds ps h
          cases vs <;> cases ds <;> simp only [DataW.TrodAll] at h
          obtain ⟨_, _, _, h2, _⟩ := h
          simp [ih _ _ _ h2]
      simpa using this _ _ _ _ hA
    have hfn : s.fn H (ds ++ []) = { results := [.lit (.bool true)], args := ds } := by rw [List.append_nil]; exact hs.2 H ds hlen
    have hlt : ∀ x ∈ p, x.block < W.heap.size := fun x hx => hW'.lt x (by simp [hx])
    have hargs : ∀ (ts : List TypeId) (vs : List Value) (ds : List (DataW H)) (ps : List MemPlace), ts.all (fun t => P.readableRec t && decide (t < P.types.size)) = true → DataW.TrodAll enc P W 0 (fun _ => true) true ts vs ds ps → (∀ x ∈ ps, x.block < W.heap.size) → ∀ sp : Nat → Bool, (∀ x ∈ ps, sp x.block = true) → DataW.TrodAll enc P W' 0 sp true ts vs ds ps := by
      intro ts
      induction ts with
      | nil => intro vs ds ps _ h _ sp _; cases vs <;> cases ds <;> simp_all [DataW.TrodAll]
      | cons t ts ih =>
        intro vs ds ps hr h hl' sp hsp
        cases vs <;> cases ds <;> simp only [DataW.TrodAll] at h
        obtain ⟨p1, p2, h1, h2, rfl⟩ := h
        simp only [List.all_cons, Bool.and_eq_true, decide_eq_true_eq] at hr
        refine ⟨p1, p2, ?_, ih _ _ _ hr.2 h2 (fun x hx => hl' x (by simp [hx])) sp (fun x hx => hsp x (by simp [hx])), rfl⟩
        exact WideElems.Trod_stays hl hr.1.1 hr.1.2 h1 (fun x hx => hb.same (hl' x (by simp [hx]))) (fun x hx => hsp x (by simp [hx]))
    have hlt' : ∀ x ∈ p ++ [], x.block < W.heap.size := fun x hx => hlt x (by simpa using hx)
    have hold : ∀ x ∈ p ++ [], (fun b => decide (b < W.heap.size)) x.block = true := fun x hx => by simpa using hlt' x hx
    have hR : ∀ (b : Nat) (sp : Nat → Bool) (hd : Bool), DataW.TrodAll enc P W' b sp hd fn.resultTypes.toList ((Value.bool true).resultList fn.resultTypes.size) [.lit (.bool true)] [] := fun b sp hd => by
      rw [hres]; exact trodAll_cons_mk (shut_bool hbt true) trodAll_mk0
    refine ⟨ds, [], p ++ [], [], p, [], hW', ?_, ?_, ?_, World.keptBut_mono (fun x hx => ⟨hx, .inr (.inl (by simpa using hx))⟩) (hb.frame (· ∈ p ++ [])), fun _ => ?_⟩
    · rw [hfn]; exact hR _ _ _
    · rw [hfn]; exact hargs _ _ _ _ hrec hA hlt _ (fun x hx => hold x (by simpa using hx))
    · rw [hs.1]; rw [hfn]; rfl
    · refine ⟨ok_one hres rfl (okWide_bool_mk hbt true), _, _, ([] ++ p) ++ [], ⟨[] ++ p, [], trodAll_append (hargs _ _ _ _ hrec hA hlt _ (fun _ _ => rfl)) (hR _ _ _), (show DataW.TrodVars enc P W' (fun _ => true) s.vars [] [] from by rw [hs.1]; rfl), rfl, ?_, ?_⟩, ?_⟩
      · intro b off hp
        have hin : MemPlace.cell b off ∈ p ++ [] := by simpa using hp
        rw [hb.frozen (hlt' _ hin)]
        exact hfz b off hin
      · intro ha; cases ha
      · intro x hx _
        simpa using hx
end Go.Vc
