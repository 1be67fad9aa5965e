/-
  More rules: a slice that grows, looked at by a call that hands back a plain value; some more, or none, for a slice that may be nil. It hangs on no seat.
-/
import Derived.Test.YtffgaoehhmgbjaaDoorTwx
set_option linter.unusedVariables false
set_option linter.unusedSimpArgs false
namespace Go.Vc
open Go
section
variable {P : Program} {o : Oper} {env : Env} {H H0 : Heap} {K : AV → Heap → Prop} {E : List PanicEntry → Heap → Prop} {rs : List Res}
/-- an operation that hands back a plain value, and needs nothing that is owned but a slice that it reads -/
theorem Exact.peek {t ty size i : Nat} {p : Option (Nat × Nat)} {es : List (List AV)} {v : Value} (hh : Holds H0 rs H) (hi : rs[i]? = some (.own ty size p es)) (ht : env t = .own es.length p)
    (k : Exact P o (env.put (some t) (.rows size es)) H.ro (.lit v)) : Exact P o env H (.lit v) := by
  obtain ⟨H1, k1, k2, k3, k4⟩ := hh.at_ hi
  have hro : H.ro.le H1 := by
    rcases Own.inv k1 with ⟨_, _, rfl⟩ | ⟨g, c, _, hg, rfl⟩
    · exact Heap.ro_le _
    · rw [Heap.ro_set rfl hg]; exact Heap.ro_le _
  have up : Up H (.own es.length p) H.ro (.rows size es) := ⟨Heap.ro_le _, fun w x hr hx => ((Own.up k1).2 w x hr hx).evol (Evol.drop w hro)⟩
  intro r n a w hr K' Q' hK hE
  refine k r n a w ⟨fun x hx => ?_, hr.2.drop (Heap.ro_le _)⟩ K' Q' (fun u v' H' w' ev hh' hv' ⟨e1, e2⟩ => ?_) (fun ch H' w' ev hh' he => he.elim)
  · have h0 := hr.1 x hx
    have hev := Evol.drop w (Heap.ro_le H)
    cases x with
    | tmp q =>
      by_cases hq : q = t
      · subst hq
        simp only [Env.ev, Env.put, if_true] at h0 ⊢
        rw [ht] at h0
        exact up.2 w _ hr.2 h0
      · simp only [Env.ev, Env.put, hq, if_false] at h0 ⊢
        exact h0.evol hev
    | _ => exact VR.evol hev h0
  · subst e1; subst e2
    have hk : ∀ g, g < w.heap.size → w'.heap[g]? = w.heap[g]? := fun g hg => ev.keep g hg (Heap.ro_dom _ g)
    have ev2 : Evol H w H w' := ⟨ev.os, ev.tape, ev.output, ev.size, fun g hg _ => hk g hg, fun g hg => .inl hg⟩
    have hv2 : VR w' H.dom (.lit v) v' := by rw [hv'.lit_inv]; exact .lit v
    exact hK (.lit v) v' H w' ev2 (hr.2.evolN ev2 (fun g ob hg => hk g (hr.2 g ob hg).lt)) hv2 ⟨rfl, rfl⟩
/-- onto nil: some more, or none -/
theorem WpO.append_nilA {x y : Operand} {t e : TypeId} {size bytes : Nat} {src : AV} {es : List (List AV)} (ho : o.op = .call { callee := .builtin .append, args := #[x, y], argTypes := #[t, t] }) (ek : ElemOk P t e size bytes) (hx : env.ev x = .own 0 none) (hy : env.ev y = src) (hs : Src H size src es)
    (h1 : ∀ e ∈ es, e.all AV.one = true) (h63 : es.length ≤ 140737488355328) (hb : es.length * bytes ≤ 140737488355328)
    (hk : ∀ p H', Own H e size es es.length p H' → K (.own es.length p) H') : WpO P o env H K E := by
  by_cases hne : es = []
  rotate_left
  · exact WpO.append_nil ho ek hx hy hs h1 hne h63 hb fun g c hg hc => hk _ _ (.row g c hg rfl)
  subst hne
  have hk0 := hk none H (.nil rfl)
  apply WpO.of_run (by simp [noDefer, ho])
  intro a w ⟨hr, hh⟩
  rw [ho] at hr
  have e0 := hr x (by simp [Op.operands, Call.operands])
  have e1 := hr y (by simp [Op.operands, Call.operands])
  rw [hx] at e0; rw [hy] at e1
  have e0 := e0.nil_inv.2
  obtain ⟨A, c, us, e2, g1, g2, g3⟩ := hs.get e1 hh
  obtain rfl := g1.nil_inv
  obtain ⟨i, z, hi, hz, hsz, hby, hzs⟩ := ek.info
  have ht := underlying_of_elemT ek.elem
  have hrun : (Builtin.append_ #[t, t] o.type #[.slice none 0 0, .slice A 0 c]).run P w = .ok (.slice none 0 0) w := by
    cases A with
    | none => simp [Builtin.append_, run_underlying ht, sizeOf, typeInfo, hi, Builtin.lenOf, Builtin.firstCells]
    | some A => simp [Builtin.append_, run_underlying ht, sizeOf, typeInfo, hi, Builtin.lenOf, Builtin.firstCells, loadCells, loadCellsFrom]
  refine ⟨.own 0 none, .slice none 0 0, H, w, ?_, .refl _ _, hh, .own0, hk0⟩
  unfold execOp; rw [ho]
  simp only [resolve, Sem.run_bind, Sem.run_pure, Result.andThen_ok, invoke, builtin, List.map_toArray, List.map_cons, List.map_nil, e0, e2, List.length_nil, hrun]
/-- some more, or none, for a slice that grows -/
theorem WpO.pushA {α : Type} (cT : α → List AV) (l xs : List α) {x y : Operand} {t e : TypeId} {size bytes i : Nat} {p : Option (Nat × Nat)} {src : AV} (ho : o.op = .call { callee := .builtin .append, args := #[x, y], argTypes := #[t, t] }) (ek : ElemOk P t e size bytes)
    (hh : Holds H0 rs H) (hi : rs[i]? = some (.own e size p (l.map cT))) (hx : env.ev x = .own (l.map cT).length p) (hy : env.ev y = src) (hs : Src H size src (xs.map cT)) (h1 : ∀ x ∈ xs, (cT x).all AV.one = true) (hb : (l.length + xs.length) * bytes ≤ 140737488355328) (hb1 : 1 ≤ bytes)
    (hk : ∀ p' H', Holds H0 (rs.set i (.own e size p' ((l ++ xs).map cT))) H' → K (.own ((l ++ xs).map cT).length p') H') : WpO P o env H K E := by
  obtain ⟨H1, k1, k2, k3, k4⟩ := hh.at_ hi
  rcases Own.inv k1 with ⟨rfl, e0, rfl⟩ | ⟨g, c, rfl, hg, rfl⟩
  · have h63 : l.length + xs.length ≤ 140737488355328 := Nat.le_trans (Nat.le_mul_of_pos_right _ hb1) hb
    have e1 : (l ++ xs).map cT = xs.map cT := by rw [List.map_append, e0]; rfl
    have es1 : ∀ e ∈ xs.map cT, e.all AV.one = true := fun e he => by obtain ⟨x, hx, rfl⟩ := List.mem_map.1 he; exact h1 x hx
    have e2 : l.length = 0 := by simpa using e0
    rw [e0] at hx
    refine WpO.append_nilA ho ek hx hy hs es1 (by simp; omega) (by rw [e2, Nat.zero_add] at hb; simpa using hb) fun p' H' own => ?_
    have := hk p' H' (k4 (.own e size p' ((l ++ xs).map cT)) H' (by rw [e1]; exact own))
    rwa [e1] at this
  · exact WpO.pushS cT l xs ho ek hh hi hx hy hs h1 hb hb1 fun g' c' H' h => hk _ _ h
end
end Go.Vc
