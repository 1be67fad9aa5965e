/-
  Part of the proof of If.
-/
import Derived.Test.YtgmpeddopfnioaaGreatDoorQiTyzx
import Derived.Laws.CopyRow
import Derived.Test.YtgmpeddopfnioaaGreatDoorQiShx
import Derived.Recover
import Derived.RecoverIn

set_option linter.unusedVariables false
set_option linter.unusedSimpArgs false
namespace Go.Vc
open Go
section
variable {P : Program} {o : Oper} {env : Env} {H H0 : Heap} {K : AV → Heap → Prop} {E : List PanicEntry → Heap → Prop} {rs : List Res}
theorem Exact.peek {t ty size i : Nat} {p : Option (Nat × Nat)} {es : List (List AV)} {v : Value} (hh : Holds H0 rs H) (hi : rs[i]? = some (.own ty size p es)) (ht : env t = .own es.length p)
  (k : Exact P o (env.put (some t) (.rows size es)) H.ro (.lit v)) : Exact P o env H (.lit v) := by
 obtain ⟨H1, k1, k2, k3, k4⟩ := hh.at_ hi
 have hro : H.ro.le H1 := by
  rcases wH k1 with ⟨_, _, rfl⟩ | ⟨g, c, _, hg, rfl⟩
  ·exact Heap.ro_le _
  ·rw [Heap.ro_set rfl hg]; exact Heap.ro_le _
 have up : Up H (.own es.length p) H.ro (.rows size es) := ⟨Heap.ro_le _, fun w x hr hx => ((Own.up k1).2 w x hr hx).evol (Evol.drop w hro)⟩
 intro r n a w hr K' Q' hK hE
 refine k r n a w ⟨fun x hx => ?_, hr.2.drop (Heap.ro_le _)⟩ K' Q' (fun u v' H' w' ev hh' hv' ⟨e1, e2⟩ => ?_) (fun ch H' w' ev hh' he => he.elim)
 ·have h0 := hr.1 x hx
  have hev := Evol.drop w (Heap.ro_le H)
  cases x with
  | tmp q =>
   by_cases hq : q = t
   ·subst hq
    simp only [Env.ev, Env.put, if_true] at h0 ⊢
    rw [ht] at h0
    exact up.2 w _ hr.2 h0
   ·simp only [Env.ev, Env.put, hq, if_false] at h0 ⊢
    exact h0.evol hev
  | _ => exact VR.evol hev h0
 ·subst e1; subst e2
  have hk : ∀ g, g < w.heap.size → w'.heap[g]? = w.heap[g]? := fun g hg => ev.keep g hg (Heap.ro_dom _ g)
  have ev2 : Evol H w H w' := ⟨ev.os, ev.tape, ev.output, ev.size, fun g hg _ => hk g hg, fun g hg => .inl hg⟩
  have hv2 : VR w' H.dom (.lit v) v' := by rw [hv'.lit_inv]; exact .lit v
  exact hK (.lit v) v' H w' ev2 (hr.2.evolN ev2 (fun g ob hg => hk g (hr.2 g ob hg).lt)) hv2 ⟨rfl, rfl⟩
theorem WpO.append_nilA {x y : Operand} {t e : TypeId} {size bytes : Nat} {src : AV} {es : List (List AV)} (ho : o.op = .call { callee := .builtin .append, args := #[x, y], argTypes := #[t, t] }) (ek : ElemOk P t e size bytes) (hx : env.ev x = .own 0 none) (hy : env.ev y = src) (hs : Src H size src es)
  (h1 : ∀ e ∈ es, e.all AV.one = true) (h63 : es.length ≤ 140737488355328) (hb : es.length * bytes ≤ 140737488355328)
  (hk : ∀ p H', Own H e size es es.length p H' → K (.own es.length p) H') : WpO P o env H K E := by
 by_cases hne : es = []
 rotate_left
 ·exact WpO.append_nil ho ek hx hy hs h1 hne h63 hb fun g c hg hc => hk _ _ (.row g c hg rfl)
 subst hne
 have hk0 := hk none H (.nil rfl)
 apply vQ (by simp [noDefer, ho])
 intro a w ⟨hr, hh⟩
 rw [ho] at hr
 have e0 := hr x (by simp [Op.operands, Call.operands])
 have e1 := hr y (by simp [Op.operands, Call.operands])
 rw [hx] at e0; rw [hy] at e1
 have e0 := e0.nil_inv.2
 obtain ⟨A, c, us, e2, g1, g2, g3⟩ := hs.get e1 hh
 obtain rfl := g1.nil_inv
 obtain ⟨i, z, hi, hz, hsz, hby, hzs⟩ := ek.info
 have ht := underlying_of_elemT ek.elem
 have hrun : (Builtin.append_ #[t, t] o.type #[.slice none 0 0, .slice A 0 c]).run P w = .ok (.slice none 0 0) w := by
  cases A with
  | none => simp [Builtin.append_, run_underlying ht, sizeOf, typeInfo, hi, Builtin.lenOf, Builtin.firstCells]
  | some A => simp [Builtin.append_, run_underlying ht, sizeOf, typeInfo, hi, Builtin.lenOf, Builtin.firstCells, loadCells, loadCellsFrom]
 refine ⟨.own 0 none, .slice none 0 0, H, w, ?_, .refl _ _, hh, .own0, hk0⟩
 unfold execOp; rw [ho]
 simp only [resolve, Sem.run_bind, Sem.run_pure, Result.andThen_ok, invoke, builtin, List.map_toArray, List.map_cons, List.map_nil, e0, e2, List.length_nil, hrun]
theorem WpO.pushA {α : Type} (cT : α → List AV) (l xs : List α) {x y : Operand} {t e : TypeId} {size bytes i : Nat} {p : Option (Nat × Nat)} {src : AV} (ho : o.op = .call { callee := .builtin .append, args := #[x, y], argTypes := #[t, t] }) (ek : ElemOk P t e size bytes)
    (hh : Holds H0 rs H) (hi : rs[i]? = some (.own e size p (l.map cT))) (hx : env.ev x = .own (l.map cT).length p) (hy : env.ev y = src) (hs : Src H size src (xs.map cT)) (h1 : ∀ x ∈ xs, (cT x).all AV.one = true) (hb : (l.length + xs.length) * bytes ≤ 140737488355328) (hb1 : 1 ≤ bytes)
    (hk : ∀ p' H', Holds H0 (rs.set i (.own e size p' ((l ++ xs).map cT))) H' → K (.own ((l ++ xs).map cT).length p') H') : WpO P o env H K E := by
  obtain ⟨H1, k1, k2, k3, k4⟩ := hh.at_ hi
  rcases wH k1 with ⟨rfl, e0, rfl⟩ | ⟨g, c, rfl, hg, rfl⟩
  · have h63 : l.length + xs.length ≤ 140737488355328 := Nat.le_trans (Nat.le_mul_of_pos_right _ hb1) hb
    have e1 : (l ++ xs).map cT = xs.map cT := by rw [List.map_append, e0]; rfl
    have es1 : ∀ e ∈ xs.map cT, e.all AV.one = true := fun e he => by obtain ⟨x, hx, rfl⟩ := List.mem_map.1 he; exact h1 x hx
    have e2 : l.length = 0 := by simpa using e0
    rw [e0] at hx
    refine WpO.append_nilA ho ek hx hy hs es1 (by simp; omega) (by rw [e2, Nat.zero_add] at hb; simpa using hb) fun p' H' own => ?_
    have := hk p' H' (k4 (.own e size p' ((l ++ xs).map cT)) H' (by rw [e1]; exact own))
    rwa [e1] at this
  · exact WpO.pushS cT l xs ho ek hh hi hx hy hs h1 hb hb1 fun g' c' H' h => hk _ _ h
end
end Go.Vc
set_option linter.unusedVariables false
set_option linter.unusedSimpArgs false
namespace Go.Vc
open Go
section
variable {P : Program} {o : Oper} {env : Env} {H H0 : Heap} {K : AV → Heap → Prop} {E : List PanicEntry → Heap → Prop} {rs : List Res}
theorem Exact.slice_rest {t e ty : TypeId} {x y : Operand} {k0 : IntKind} {g n c k size : Nat} {es : List (List AV)} (ho : o.op = .slice t x (some y) none none) (hx : env.ev x = .buf g n c) (hy : env.ev y = .lit (.int k0 (.ofNat k))) (hg : H g = some (.row ty size es c)) (hn : n ≤ es.length) (hk : k ≤ n)
  (ht : elemT P t = some e) (hsz : P.cellsOf e = size) (hz : size ≠ 0) : Exact P o env H (.lit (.slice (some ⟨g, if k < c then k * size else 0, none⟩) (n - k) (c - k))) := by
 apply vB (by simp [noDefer, ho])
 intro a w ⟨hr, hh⟩
 rw [ho] at hr
 have h0 := hr x (by simp [Op.operands])
 have h1 := hr y (by simp [Op.operands])
 rw [hx] at h0; rw [hy] at h1
 have e0 := h0.buf_inv
 have e1 := h1.lit_inv
 obtain ⟨cur, _, _, hc, _⟩ := hh g _ hg
 have hu := underlying_of_elemT ht
 have hb := sliceBounds_run (P := P) (w := w) (isS := true) (len := n) (cap := c) (lo := some k) (hi := none) (mx := none) (ul := some (.int k0 (Int.ofNat k))) (uh := none) (um := none) (.inr ⟨k, k0, rfl, rfl⟩) (.inl ⟨rfl, rfl⟩) (.inl ⟨rfl, rfl⟩) (by omega) hk trivial
 have hso := cellsOf_run (w := w) (P := P) (t := e) hsz hz
 refine ⟨.slice (some ⟨g, if k < c then k * size else 0, none⟩) (n - k) (c - k), ?_, .lit _⟩
 unfold execOp
 rw [ho]
 simp only [Option.map_none, Option.map_some, e0, e1, Instr.sliceAt, Instr.slice, Sem.run_bind, run_underlying hu, Result.andThen_ok, hb, hso, Sem.run_pure]
 simp only [Option.getD_none, Option.getD_some, loOf, hiOf]
 by_cases h : k < c
 ·have h2 : ¬ c = k := by omega
  simp [h, h2, addr_add]
 ·have h2 : c = k := by omega
  simp [h2]
theorem wD {t e : TypeId} {x y : Operand} {k0 : IntKind} {g n c k size : Nat} (ho : o.op = .slice t x none (some y) none) (hx : env.ev x = .buf g n c) (hy : env.ev y = .lit (.int k0 (.ofNat k))) (hn : n ≤ c) (hk : k ≤ n)
  (ht : elemT P t = some e) (hsz : P.cellsOf e = size) (hz : size ≠ 0) : Exact P o env H (.buf g k c) := by
 apply vB (by simp [noDefer, ho])
 intro a w ⟨hr, hh⟩
 rw [ho] at hr
 have h0 := hr x (by simp [Op.operands])
 have h1 := hr y (by simp [Op.operands])
 rw [hx] at h0; rw [hy] at h1
 have e0 := h0.buf_inv
 have e1 := h1.lit_inv
 have hu := underlying_of_elemT ht
 have hb := sliceBounds_run (P := P) (w := w) (isS := true) (len := n) (cap := c) (lo := none) (hi := some k) (mx := none) (ul := none) (uh := some (.int k0 (Int.ofNat k))) (um := none) (.inl ⟨rfl, rfl⟩) (.inr ⟨k, k0, rfl, rfl⟩) (.inl ⟨rfl, rfl⟩) (by omega) hk trivial
 have hso := cellsOf_run (w := w) (P := P) (t := e) hsz hz
 refine ⟨.slice (some ⟨g, 0, none⟩) k c, ?_, .buf _ _ _⟩
 unfold execOp
 rw [ho]
 simp only [Option.map_none, Option.map_some, e0, e1, Instr.sliceAt, Instr.slice, Sem.run_bind, run_underlying hu, Result.andThen_ok, hb, hso, Sem.run_pure]
 simp only [Option.getD_none, loOf, hiOf, Nat.zero_mul, Nat.sub_zero]
 split
 ·rfl
 ·simp [Addr.add]
theorem zeros_one {z : Array Value} (h : ∀ u ∈ z.toList, u.oneCell' = true) (hz : z.size ≠ 0) (m : Nat) : ∀ u ∈ (Builtin.zeroCells z m).toList, u.oneCell' = true := by
 intro u hu
 unfold Builtin.zeroCells at hu
 simp only [Array.toList_map, List.mem_map] at hu
 obtain ⟨i, _, rfl⟩ := hu
 have hlt : i % z.size < z.size := Nat.mod_lt _ (by omega)
 rw [getElem!_pos z (i % z.size) hlt]
 exact h _ (by simp)
theorem WpO.clearCut {t e : TypeId} {x : Operand} {g c c' k m off size : Nat} {es : List (List AV)} (ho : o.op = .call { callee := .builtin .clear, args := #[x], argTypes := #[t] }) (he : elemT P t = some e) (hzz : ((P.info? e).bind (·.zero)).map (fun z => (z.cells.size == size) && z.cells.toList.all (·.oneCell')) = some true) (hpos : size ≠ 0)
    (hx : env.ev x = .lit (.slice (some ⟨g, off, none⟩) m c')) (hg : H g = some (.row e size es c)) (hoff : k < c → off = k * size) (hk : k + m = es.length) (hK : es.length ≤ c → K (.lit (.tuple #[])) (H.set g (.row e size (es.take k) c))) : WpO P o env H K E := by
  obtain ⟨z, hz0, hz2⟩ := Option.map_eq_some_iff.1 hzz
  obtain ⟨it, hi, hz⟩ := Option.bind_eq_some_iff.1 hz0
  simp only [Bool.and_eq_true, beq_iff_eq, List.all_eq_true] at hz2
  obtain ⟨hsz, hz1⟩ := hz2
  apply vQ (by simp [noDefer, ho])
  intro a w ⟨hr, hh⟩
  rw [ho] at hr
  have h0 := hr x (by simp [Op.operands, Call.operands])
  rw [hx] at h0
  have e0 := h0.lit_inv
  have hu := underlying_of_elemT he
  have hd : H.dom g := ⟨_, hg, rfl⟩
  obtain ⟨cur, g1, g2, g3, g4, g5, g6⟩ := hh g _ hg
  replace hK := hK g3
  by_cases hm : m = 0
  · subst hm
    have e1 : es.take k = es := List.take_of_length_le (by omega)
    have e2 : H.set g (.row e size (es.take k) c) = H := by
      rw [e1]; funext q; simp only [Heap.set]; split
      · rename_i h; rw [h, hg]
      · rfl
    rw [e2] at hK
    refine ⟨_, .tuple #[], H, w, ?_, .refl _ _, hh, .lit _, hK⟩
    unfold execOp; rw [ho]
    simp only [resolve, Sem.run_bind, Sem.run_pure, Result.andThen_ok, invoke, builtin, List.map_toArray, List.map_cons, List.map_nil, e0, Builtin.clear_, run_underlying hu]
    simp [run_underlying hu]
  · have hzs : (zeroValue e).run P w = .ok z w := by simp [zeroValue, typeInfo, hi, hz]
    have hkc : k < c := by omega
    have hoff := hoff hkc
    subst hoff
    have hl : (Builtin.zeroCells z.cells m).toList.length = m * size := by simp [Builtin.zeroCells, hsz]
    have hfit : k * size + 0 + (Builtin.zeroCells z.cells m).toList.length ≤ cur.size := by
      rw [hl, g2]
      have : (k + m) * size ≤ c * size := Nat.mul_le_mul_right _ (by omega)
      rw [Nat.add_mul] at this; omega
    have hrun := run_storeCells_at P g (k * size) e (Builtin.zeroCells z.cells m).toList 0 cur w g1 hfit (zeros_one hz1 (by omega) m)
    simp only [Nat.add_zero] at hrun
    have ev := setRow_evol (w := w) (cur.toList.take (k * size) ++ (Builtin.zeroCells z.cells m).toList ++ cur.toList.drop (k * size + (Builtin.zeroCells z.cells m).toList.length)).toArray (.row e size (es.take k) c) hd
    refine ⟨_, .tuple #[], _, _, ?_, ev, ?_, .lit _, hK⟩
    · unfold execOp; rw [ho]
      simp only [resolve, Sem.run_bind, Sem.run_pure, Result.andThen_ok, invoke, builtin, List.map_toArray, List.map_cons, List.map_nil, e0, Builtin.clear_]
      simp [run_underlying hu, hzs, hm, hrun]
    · refine vU _ hh ev (fun k hk => setRow_other w g k _ hk) ⟨_, setRow_heap w g _ _ _ _ g1, ?_, by rw [List.length_take]; omega, g4, fun q hq => g5 q (List.mem_of_mem_take hq), ?_⟩
      · have : (k + m) * size ≤ c * size := Nat.mul_le_mul_right _ (by omega)
        rw [Nat.add_mul] at this
        simp only [List.size_toArray, List.length_append, List.length_take, List.length_drop, Array.length_toList, g2, hl]; omega
      · have hmin : min k es.length = k := by omega
        rw [List.length_take, hmin, flatten_take _ _ g5]
        have h6 := (g6.take (k * size)).evol ev
        have hle : k * size ≤ es.length * size := Nat.mul_le_mul_right _ (by omega)
        have hle2 : es.length * size ≤ c * size := Nat.mul_le_mul_right _ (by omega)
        have e5 : (cur.toList.take (k * size) ++ (Builtin.zeroCells z.cells m).toList ++ cur.toList.drop (k * size + (Builtin.zeroCells z.cells m).toList.length)).take (k * size) = (cur.toList.take (es.length * size)).take (k * size) := by
          rw [List.take_take, Nat.min_eq_left hle, List.append_assoc, List.take_append_of_le_length (by rw [List.length_take, Array.length_toList, g2]; omega), List.take_take, Nat.min_self]
        rw [e5]
        exact h6
end
end Go.Vc
set_option linter.unusedVariables false
set_option linter.unusedSimpArgs false
namespace Go.Vc
open Go
section
variable {P : Program} {o : Oper} {env : Env} {H H0 : Heap} {K : AV → Heap → Prop} {E : List PanicEntry → Heap → Prop} {rs : List Res}
theorem WpO.panic {x : Operand} {t : TypeId} {v : Value} (ho : o.op = .panic x) (hx : env.ev x = .ifc t (.agg [.lit v])) (h : E [{ v := .iface t (.agg #[v]), recovered := false }] H) : WpO P o env H K E := fun r n a w ⟨hr, hh⟩ K' Q' _ h2 => by
 rw [ho] at hr
 have e0 := hr x (by simp [Op.operands])
 rw [hx] at e0
 obtain ⟨u, e1, e2⟩ := e0.ifc_inv
 obtain ⟨us, rfl, e3⟩ := e2.agg_inv
 obtain ⟨u1, us', rfl, e4, e5⟩ := e3.cons_inv
 obtain rfl := e5.nil_inv
 obtain rfl := e4.lit_inv
 refine ⟨fun _ _ => trivial, ?_⟩
 rw [sem_noDefer (by simp [noDefer, ho])]
 have hrun : (execOp a.eval o).run P w = .halt (.panic (.iface t (.agg #[u1]))) w := by
  unfold execOp; rw [ho]
  simp only [e1, Instr.panic, Sem.run_bind]
  rfl
 rw [hrun]
 exact h2 _ H w (.refl _ _) hh h
theorem Exact.litRun {x : Operand} {u v : Value} (hx : env.ev x = .lit u) (hm : x ∈ o.op.operands) (hn : noDefer o = true) (h : ∀ (a : Act) (w : World), (∀ y ∈ o.op.operands, VR w H.dom (env.ev y) (a.eval y)) → a.eval x = u → (execOp a.eval o).run P w = .ok (.value v) w) : Exact P o env H (.lit v) := by
 apply vB hn
 intro a w ⟨hr, hh⟩
 have h0 := hr x hm
 rw [hx] at h0
 exact ⟨v, h a w hr h0.lit_inv, .lit _⟩
theorem Exact.ifaceNil {x : Operand} {t ty : TypeId} {u v : Value} {ms : Array (String × TypeId)} (ho : o.op = .binOp .eql t x (.const .nilIface) ty) (hu : P.underlying t = some (.interface ms)) (hx : env.ev x = .lit u) (hv : v = .bool true ∧ u = .nilIface ∨ v = .bool false ∧ ∃ t u', u = .iface t u') : Exact P o env H (.lit v) :=
  Exact.litRun hx (by rw [ho]; simp [Op.operands]) (by simp [noDefer, ho]) fun a w hr e => by
    have hc : a.eval (.const .nilIface) = .nilIface := rfl
    rcases hv with ⟨rfl, rfl⟩ | ⟨rfl, t', u', rfl⟩
    · have h1 := eqv_run (P := P) (w := w) (t := t) (u := .nilIface) (u' := .nilIface) (b := true) (fun d => by simp [Op.equalIn, run_underlying hu]) (by rintro op (rfl | rfl) <;> rfl)
      have h2 : ∀ xo, (eqGuard .eql t xo (.const .nilIface) .nilIface .nilIface).run P w = .ok () w := fun xo => by unfold eqGuard; simp
      unfold execOp; rw [ho]
      simp [e, hc, h1.1, h2]
    · have h1 := eqv_run (P := P) (w := w) (t := t) (u := .iface t' u') (u' := .nilIface) (b := false) (fun d => by simp [Op.equalIn, run_underlying hu]) (by rintro op (rfl | rfl) <;> rfl)
      have h2 : ∀ xo yo, (eqGuard .eql t xo yo (.iface t' u') .nilIface).run P w = .ok () w := fun xo yo => eqGuard_noop (by intro cs; simp) (by simp)
      unfold execOp; rw [ho]
      simp [e, hc, h1.1, h2]
theorem Exact.assertS {x : Operand} {t s : TypeId} {u : Value} (ho : o.op = .typeAssert x t s true) (hu : (match P.underlying s with | some (.struct _) => true | _ => false) = true) (hx : env.ev x = .lit (.iface s u)) : Exact P o env H (.lit (.tuple #[u, .bool true])) := by
  refine Exact.litRun hx (by rw [ho]; simp [Op.operands]) (by simp [noDefer, ho]) fun a w hr e => ?_
  cases hs : P.underlying s with
  | none => rw [hs] at hu; cases hu
  | some k =>
    cases k with
    | struct fs =>
      unfold execOp; rw [ho]
      simp [e, Instr.typeAssert, run_underlying hs]
    | _ => rw [hs] at hu; cases hu
theorem Exact.extractL {x : Operand} {i : Nat} {us : Array Value} {v : Value} (ho : o.op = .extract x i) (hx : env.ev x = .lit (.tuple us)) (hv : us[i]? = some v) : Exact P o env H (.lit v) :=
 Exact.litRun hx (by rw [ho]; simp [Op.operands]) (by simp [noDefer, ho]) fun a w hr e => by
  unfold execOp; rw [ho]
  simp [e, Instr.extract, hv]
theorem wE {α : Type} {f : FuncId} {args : Array Operand} {ts : Array TypeId} {xs : List AV} {pe : Int → List PanicEntry} {r : Sum Int α} {V : α → AV} (ho : o.op = .call { callee := .value (.func f), args := args, argTypes := ts }) (he : enterable P f = true) (hx : forceL (args.toList.map env.ev) some = some xs)
  (h : TCall P f xs H (fun v H' => ∃ x, r = .inr x ∧ v = V x ∧ H' = H) (fun ch H' => ∃ e, r = .inl e ∧ ch = pe e ∧ H.le H')) (hk : ∀ x, r = .inr x → K (V x) H) (hE : ∀ e H', r = .inl e → H.le H' → E (pe e) H') : WpO P o env H K E := by
 refine WpO.call ho he hx (h.mono ?_ ?_)
 ·rintro _ _ ⟨x, h1, rfl, rfl⟩; exact hk x h1
 ·rintro _ H' ⟨e, h1, rfl, h2⟩; exact hE e H' h1 h2
theorem Holds.app : ∀ {as bs : List Res} {H : Heap}, Holds H0 (as ++ bs) H → ∃ H1, Holds H0 bs H1 ∧ Holds H1 as H
  | [], bs, H, h => ⟨H, h, rfl⟩
  | r :: as, bs, H, ⟨H2, h1, h2⟩ => by obtain ⟨H1, k1, k2⟩ := Holds.app h1; exact ⟨H1, k1, H2, k2, h2⟩
theorem Holds.app_of : ∀ {as bs : List Res} {H1 H : Heap}, Holds H0 bs H1 → Holds H1 as H → Holds H0 (as ++ bs) H
 | [], bs, H1, H, h, k => by rw [show H = H1 from k]; exact h
 | r :: as, bs, H1, H, h, ⟨H2, k1, k2⟩ => ⟨H2, Holds.app_of h k1, k2⟩
theorem WpO.callFP {α β γ : Type} {f : FuncId} {args : Array Operand} {ts : Array TypeId} {xs : List AV} (n : Nat) {pe : Int → List PanicEntry} {r : Sum Int α} {V : α → AV} {A : α → β → List Res} {Y : γ → List Res} (ho : o.op = .call { callee := .value (.func f), args := args, argTypes := ts }) (he : enterable P f = true) (hx : forceL (args.toList.map env.ev) some = some xs) (hh : Holds H0 rs H)
  (h : ∀ H1, H0.le H1 → Holds H1 (rs.take n) H → TCall P f xs H (fun v H' => ∃ x, r = .inr x ∧ v = V x ∧ ∃ b, Holds H1 (A x b) H') (fun ch H' => ∃ e, r = .inl e ∧ ch = pe e ∧ ∃ H2, Heap.le H2 H' ∧ ∃ y, Holds H1 (Y y) H2))
  (hk : ∀ x b H', r = .inr x → Holds H0 (A x b ++ rs.drop n) H' → K (V x) H') (hE : ∀ e y H2 H', r = .inl e → Heap.le H2 H' → Holds H0 (Y y ++ rs.drop n) H2 → E (pe e) H') : WpO P o env H K E := by
 obtain ⟨H1, k1, k2⟩ := Holds.app (as := rs.take n) (bs := rs.drop n) (H0 := H0) (H := H) (by rw [List.take_append_drop]; exact hh)
 refine WpO.call ho he hx ((h H1 k1.le k2).mono ?_ ?_)
 ·rintro _ H' ⟨x, h1, rfl, b, h2⟩; exact hk x b H' h1 (Holds.app_of k1 h2)
 ·rintro _ H' ⟨e, h1, rfl, H2, h2, y, h3⟩; exact hE e y H2 H' h1 h2 (Holds.app_of k1 h3)
theorem WpO.isNil {t ty e : TypeId} {x y : Operand} {size : Nat} {es : List (List AV)} (ho : o.op = .binOp .eql t x y ty) (ht : elemT P t = some e) (hx : env.ev x = .rows size es) (hy : env.ev y = .own 0 none) (hk : ∀ b : Bool, (b = true → es = []) → K (.lit (.bool b)) H) : WpO P o env H K E := by
  apply vQ (by simp [noDefer, ho])
  intro a w ⟨hr, hh⟩
  rw [ho] at hr
  have h0 := hr x (by simp [Op.operands])
  have h1 := hr y (by simp [Op.operands])
  rw [hx] at h0; rw [hy] at h1
  have hu := underlying_of_elemT ht
  obtain ⟨_, h1⟩ := h1.nil_inv
  rcases h0.rows_inv with ⟨e0, h0⟩ | ⟨A, c, us, h0, _⟩
  · have k1 := eqv_run (P := P) (w := w) (t := t) (u := .slice none 0 0) (u' := .slice none 0 0) (b := true) (fun d => by simp [Op.equalIn, run_underlying hu]) (by rintro op (rfl | rfl) <;> rfl)
    have k2 : ∀ xo yo, (eqGuard .eql t xo yo (.slice none 0 0) (.slice none 0 0)).run P w = .ok () w := fun xo yo => eqGuard_noop (by intro cs; simp) (by simp)
    refine ⟨.lit (.bool true), .bool true, H, w, ?_, .refl _ _, hh, .lit _, hk true (fun _ => e0)⟩
    unfold execOp; rw [ho]
    simp [h0, h1, k1.1, k2]
  · have k1 := eqv_run (P := P) (w := w) (t := t) (u := .slice (some A) es.length c) (u' := .slice none 0 0) (b := false) (fun d => by simp [Op.equalIn, run_underlying hu]) (by rintro op (rfl | rfl) <;> rfl)
    have k2 : ∀ xo yo, (eqGuard .eql t xo yo (.slice (some A) es.length c) (.slice none 0 0)).run P w = .ok () w := fun xo yo => eqGuard_noop (by intro cs; simp) (by simp)
    refine ⟨.lit (.bool false), .bool false, H, w, ?_, .refl _ _, hh, .lit _, hk false (fun h => by cases h)⟩
    unfold execOp; rw [ho]
    simp [h0, h1, k1.1, k2]
theorem WpO.callO {f : FuncId} {args : Array Operand} {ts : Array TypeId} {xs : List AV} {t size : Nat} {es : List (List AV)} (ho : o.op = .call { callee := .value (.func f), args := args, argTypes := ts }) (he : enterable P f = true) (hx : forceL (args.toList.map env.ev) some = some xs) (hh : Holds H0 rs H)
  (h : TCall P f xs H (fun v H' => ∃ p, v = .own es.length p ∧ Own H t size es es.length p H') noE) (hk : ∀ p H', Holds H0 (.own t size p es :: rs) H' → K (.own es.length p) H') : WpO P o env H K E := by
 refine WpO.call ho he hx (h.mono ?_ (fun _ _ h => h.elim))
 rintro _ H' ⟨p, rfl, h2⟩; exact hk p H' ⟨H, hh, h2⟩
theorem Holds.front {i : Nat} {r : Res} (h : Holds H0 rs H) (hi : rs[i]? = some r) : Holds H0 (r :: rs.eraseIdx i) H := by
 obtain ⟨H1, k1, k2, k3, k4⟩ := h.at_ hi
 exact ⟨H1, k3, k1⟩
def insR : Nat → Res → List Res → List Res
 | 0, r, l => r :: l
 | _ + 1, r, [] => [r]
 | i + 1, r, x :: l => x :: insR i r l
theorem Holds.back : ∀ (i : Nat) {r : Res} {l : List Res} {H : Heap}, Holds H0 (r :: l) H → Holds H0 (insR i r l) H
 | 0, r, l, H, h => h
 | i + 1, r, [], H, h => h
 | i + 1, r, x :: l, H, ⟨H1, ⟨H2, h1, h2⟩, h3⟩ => by
  obtain ⟨H3, k1, k2⟩ := Res.swap h2 h3
  exact ⟨H3, Holds.back i ⟨H2, h1, k1⟩, k2⟩
theorem Holds.recell {i g t : Nat} {cs cs' : List AV} (h : Holds H0 rs H) (hi : rs[i]? = some (.cell g t cs)) (e : cs = cs') : Holds H0 (rs.set i (.cell g t cs')) H := by
 subst e
 obtain ⟨H1, k1, k2, k3, k4⟩ := h.at_ hi
 exact k4 _ _ k1
end
section code
variable {P : Program} {N : Nat} {c : Code} {env : Env} {H H0 : Heap} {Q : QC} {rs : List Res}
theorem WpC.weak {H' : Heap} (hw : Wk H H') (h : WpC P N c env H' Q) : WpC P N c env H Q :=
 WpC.conv (fun fr a w r => ⟨(hw w).1, r.evol (hw w).1 ((hw w).2 r.heap)⟩) h
theorem WpC.freezeC {ty size i j g t k : Nat} {p : Option (Nat × Nat)} {es : List (List AV)} {cs : List AV} (h : Holds H0 rs H) (hj : rs[j]? = some (.own ty size p es)) (hi : (rs.eraseIdx j)[i]? = some (.cell g t cs)) (hk : cs[k]? = some (.own es.length p))
  (kk : ∀ H', Holds H0 ((rs.eraseIdx j).set i (.cell g t (cs.set k (.rows size es)))) H' → WpC P N c env H' Q) : WpC P N c env H Q := by
 obtain ⟨H1, k1, k2, k3, k4⟩ := h.at_ hj
 obtain ⟨H2, ⟨hg, rfl⟩, m2, m3, m4⟩ := k3.at_ hi
 have up := Own.up k1
 have hle := k1.le
 refine WpC.weak (H' := H2.set g (.cells t (cs.set k (.rows size es)))) (fun w => ?_) (kk _ (m4 _ _ ⟨hg, rfl⟩))
 have hd : (H2.set g (.cells t (cs.set k (.rows size es)))).dom = (H2.set g (.cells t cs)).dom := by
  funext q
  apply propext
  unfold Heap.dom
  by_cases e : q = g
  ·subst e; simp only [uO]
   constructor
   ·rintro ⟨o, ho, h⟩; injection ho with ho; subst ho; exact ⟨_, rfl, rfl⟩
   ·rintro ⟨o, ho, h⟩; injection ho with ho; subst ho; exact ⟨_, rfl, rfl⟩
  ·simp only [uS _ _ e]
 have ev := Evol.drop w hle
 refine ⟨⟨rfl, rfl, rfl, Nat.le_refl _, fun _ _ _ => rfl, fun q hq => ev.dom q (by rw [hd] at hq; exact hq)⟩, fun hh q o hq => ?_⟩
 rw [hd]
 by_cases e : q = g
 ·subst e
  rw [uO] at hq; injection hq with hq; subst hq
  obtain ⟨us, h1, h2⟩ := hh q _ (hle _ _ (uO _ _ _))
  refine ⟨us, h1, by simp [h2.1], fun n x u hx hu => ?_⟩
  rw [List.getElem?_set] at hx
  split at hx
  ·rename_i e2; subst e2
   split at hx
   ·injection hx with hx; subst hx
    exact up.2 w u hh (h2.2 k _ u hk hu)
   ·cases hx
  ·exact (h2.2 n x u hx hu).evol ev
 ·rw [uS _ _ e] at hq
  have hx : (H2.set g (.cells t cs)) q = some o := by rw [uS _ _ e]; exact hq
  exact (hh.drop hle) q o hx
theorem Sub.litAgg (v : Value) : Sub (.lit (.agg #[v])) (.agg [.lit v]) := fun w D u h => by
 obtain rfl := h.lit_inv
 exact .agg [v] rfl (VRs.cons (.lit v) .nil).2
theorem VEnds.pan {fn : Func} {K : AV → Heap → Prop} {E : List PanicEntry → Heap → Prop} {ch : List PanicEntry} (h : E ch H) : VEnds (P := P) fn K E (.panic ch) env H := h
end code
def DEnds (K : Env → Heap → Prop) (E : List PanicEntry → Env → Heap → Prop) : QC
 | .normal, env, H | .ret, env, H => K env H
 | .panic ch, env, H => E ch env H
 | _, _, _ => False
theorem DEnds.ret_ {K : Env → Heap → Prop} {E : List PanicEntry → Env → Heap → Prop} {env : Env} {H : Heap} (h : K env H) : DEnds K E .ret env H := h
theorem DEnds.end_ {K : Env → Heap → Prop} {E : List PanicEntry → Env → Heap → Prop} {env : Env} {H : Heap} (h : K env H) : DEnds K E .normal env H := h
theorem DEnds.un_normal {K : Env → Heap → Prop} {E : List PanicEntry → Env → Heap → Prop} {env : Env} {H : Heap} (h : DEnds K E .normal env H) : K env H := h
theorem DEnds.un_ret {K : Env → Heap → Prop} {E : List PanicEntry → Env → Heap → Prop} {env : Env} {H : Heap} (h : DEnds K E .ret env H) : K env H := h
theorem DEnds.un_panic {K : Env → Heap → Prop} {E : List PanicEntry → Env → Heap → Prop} {ch : List PanicEntry} {env : Env} {H : Heap} (h : DEnds K E (.panic ch) env H) : E ch env H := h
theorem DEnds.un_exit {K : Env → Heap → Prop} {E : List PanicEntry → Env → Heap → Prop} {i : Nat} {env : Env} {H : Heap} (h : DEnds K E (.exit i) env H) : False := h
theorem DEnds.un_goto {K : Env → Heap → Prop} {E : List PanicEntry → Env → Heap → Prop} {i : Nat} {env : Env} {H : Heap} (h : DEnds K E (.goto i) env H) : False := h
theorem DEnds.un_outgrown {K : Env → Heap → Prop} {E : List PanicEntry → Env → Heap → Prop} {env : Env} {H : Heap} (h : DEnds K E .outgrown env H) : False := h
theorem DEnds.pan {K : Env → Heap → Prop} {E : List PanicEntry → Env → Heap → Prop} {ch : List PanicEntry} {env : Env} {H : Heap} (h : E ch env H) : DEnds K E (.panic ch) env H := h
def DCall (P : Program) (f : FuncId) (args : List AV) (H : Heap) (u : FrameMode) (K : FrameMode → Heap → Prop) : Prop :=
 ∀ us w, VRs w H.dom args us → HeapR w H → CallsDIn (fen none) 0 P f us.toArray u w fun e u1 w' => (∃ v, e = .returned v) ∧ ∃ H', Evol H w H' w' ∧ HeapR w' H' ∧ K u1 H'
theorem DCall.mono {P : Program} {f : FuncId} {args : List AV} {H : Heap} {u : FrameMode} {K K' : FrameMode → Heap → Prop} (h : DCall P f args H u K) (hk : ∀ u H, K u H → K' u H) : DCall P f args H u K' := fun us w hv hh =>
 (h us w hv hh).mono fun e u1 w' ⟨h1, H', h2, h3, h4⟩ => ⟨h1, H', h2, h3, hk _ _ h4⟩
theorem DCall.drop {P : Program} {f : FuncId} {args : List AV} {H H' : Heap} {u : FrameMode} {K : FrameMode → Heap → Prop} (hl : Heap.le H' H) (h : DCall P f args H' u K) : DCall P f args H u K := fun us w hv hh =>
 (h us w (hv.evol (Evol.drop w hl)) (hh.drop hl)).mono fun e u1 w' ⟨h1, H2, h2, h3, h4⟩ => ⟨h1, H2, (Evol.drop w hl).trans h2, h3, h4⟩
theorem rel_args {fr : Fr} {N : Nat} {args : List AV} {us : List Value} {H : Heap} {w : World} (hn : args.length ≤ N) (hv : VRs w H.dom args us) (hh : HeapR w H) (hb : fr = ⟨none, w.heap.size, []⟩) :
    Rel fr N (Env.args args) H { tmps := us.toArray ++ Array.replicate (N - us.toArray.size) undef, defers := [] } w := by
  subst hb
  refine ⟨by simp [hv.1]; omega, fun t => ?_, hh, Nat.le_refl _, ⟨fun d hd => by simp at hd, [], rfl, fun d hd => by simp at hd, .nil⟩, (fun l hl => by cases hl), fun _ => rfl⟩
  simp only [Env.args, Array.getD_eq_getD_getElem?, List.getD_eq_getElem?_getD, Array.getElem?_append, List.size_toArray, List.getElem?_toArray]
  by_cases ht : t < us.length
  · rw [if_pos ht]
    have ht' : t < args.length := by rw [← hv.1]; exact ht
    rw [List.getElem?_eq_getElem ht, List.getElem?_eq_getElem ht']
    exact hv.2 t _ _ (List.getElem?_eq_getElem ht') (List.getElem?_eq_getElem ht)
  · rw [if_neg ht, List.getElem?_eq_none (l := args) (by rw [← hv.1]; omega)]
    have : (Array.replicate (N - us.length) undef)[t - us.length]?.getD undef = undef := by
      rw [Array.getElem?_replicate]; split <;> rfl
    rw [this]
    exact .lit _
def recOf : FrameMode → Value × FrameMode
 | .panicking ({ v, recovered := false, goexit := false } :: older) => (v, .panicking ({ v, recovered := true } :: older))
 | m => (.nilIface, m)
theorem recoverD_recOf (c : Frame) (cs : List Frame) : recoverD (c :: cs) = some ((recOf c.mode).1, { c with mode := (recOf c.mode).2 } :: cs) ∨ (recoverD (c :: cs) = none ∧ (recOf c.mode).1 = .nilIface ∧ (recOf c.mode).2 = c.mode) := by
  cases hm : c.mode with
  | run => right; exact ⟨by simp [recoverD, hm], rfl, rfl⟩
  | returning => right; exact ⟨by simp [recoverD, hm], rfl, rfl⟩
  | panicking chain =>
    cases chain with
    | nil => right; exact ⟨by simp [recoverD, hm], rfl, rfl⟩
    | cons p older =>
      obtain ⟨v, r, g⟩ := p
      cases r <;> cases g
      · left; simp [recoverD, hm, recOf]
      all_goals (right; exact ⟨by simp [recoverD, hm], rfl, rfl⟩)
theorem DCall.body {P : Program} {f : FuncId} {fn : Func} {c : Code} {args : List AV} {H : Heap} {u : FrameMode} {K : FrameMode → Heap → Prop} {id : Nat} {o : Oper} {d : Tmp} {ts : Array TypeId} (hf : P.funcs[f]? = some fn) (hb : fn.body = some (.seq (.region id #[o] false) c)) (ho : o.op = .call { callee := .builtin .recover, args := #[], argTypes := ts }) (hg : o.guard = none) (hd : o.dst = some d)
  (hdn : Nat.blt d fn.ntmps = true) (hn : Nat.ble args.length fn.ntmps = true) (hr : fn.results.toList = []) (hq : quietN fn.ntmps = true)
  (h : WpC P fn.ntmps c ((Env.args args).put (some d) (.lit (recOf u).1)) H (fun e _ H' => (e = .normal ∨ e = .ret) ∧ K (recOf u).2 H')) : DCall P f args H u K := by
 intro us w hv hh
 refine callsDIn_of_wpSIn hf hb trivial fun c₀ cs hu => ?_
 refine wpSIn_seq (wpSIn_region ?_)
 have hrel := rel_args (N := fn.ntmps) (Nat.le_of_ble_eq_true hn) hv hh rfl
 have hrun : ∀ a : Act, (execOp a.eval o).run P w = .ok .recover w := fun a => by
  unfold execOp; rw [ho]
  simp [resolve, go_sem]
 have hrange : List.range (#[o] : Array Oper).size = [0] := rfl
 have hfin : ∀ (v : Value) (cs' : List Frame), v = (recOf u).1 → cs' = { c₀ with mode := (recOf u).2 } :: cs →
   c.wpSIn (fen none) 0 P (bodyPostS P fn c₀ cs fun e u1 w' => (∃ v, e = .returned v) ∧ ∃ H', Evol H w H' w' ∧ HeapR w' H' ∧ K u1 H') (({ tmps := us.toArray ++ Array.replicate (fn.ntmps - us.toArray.size) undef, defers := [] } : Act).put o.dst v) cs' w := by
  rintro v cs' rfl rfl
  rw [hd]
  have hrel2 := hrel.put (.refl H w) hh (d := some d) (by simpa using hdn) (.lit (recOf u).1)
  refine wpSIn_of_wpIn rfl (wpIn_mono (h ⟨none, w.heap.size, []⟩ 0 _ w hrel2) ?_)
  rintro e a' w' ⟨env', H', ev, r, hex, hk⟩
  have hres : ∃ u, (results fn a'.tmps).run P w' = .ok u w' := by
   obtain ⟨u, h1, _⟩ := results_run (P := P) (fn := fn) (vs := []) r (by rw [hr]; exact .nil)
   exact ⟨u, h1⟩
  obtain ⟨u1, hu1⟩ := hres
  rcases hex with rfl | rfl
  ·exact ⟨r.quiet hq, _, rfl, u1, hu1, ⟨_, rfl⟩, H', ev, r.heap, hk⟩
  ·exact ⟨r.quiet hq, _, rfl, u1, hu1, ⟨_, rfl⟩, H', ev, r.heap, hk⟩
 rw [hrange]
 unfold wpOpsSIn
 have hw : ∀ t, Region.wanted o (yielded #[o] t) = true := fun t => by unfold Region.wanted; rw [hg]
 simp only [List.getElem?_toArray, List.getElem?_cons_zero, hw, if_true, hrun]
 refine ⟨fun _ _ => trivial, ?_⟩
 rcases recoverD_recOf c₀ cs with h1 | ⟨h1, h2, h3⟩
 ·rw [h1, hu]
  exact hfin _ _ rfl rfl
 ·rw [h1]
  rw [hu] at h2 h3
  refine hfin _ _ h2.symm ?_
  rw [h3]
  cases c₀
  simp only at hu
  subst hu
  rfl
def DQ (P : Program) (fn : Func) (g : FuncId) (dargs : List AV) (K : AV → Heap → Prop) : QC
 | .normal, env, H | .ret, env, H => DCall P g dargs H .returning fun u1 H2 => settle u1 = .returning ∧ ∃ vs, ResV P env H2 fn.results.toList vs ∧ K (resOf vs) H2
 | .panic ch, env, H => DCall P g dargs H (.panicking ch) fun u1 H2 => settle u1 = .returning ∧ ∃ vs, ResV P env H2 fn.results.toList vs ∧ K (resOf vs) H2
 | _, _, _ => False
theorem TCall.bodyD {P : Program} {f g : FuncId} {fn : Func} {A rest : Code} {args : List AV} {H : Heap} {K : AV → Heap → Prop} {id : Nat} {om od : Oper} {t5 t2 t3 : Tmp} (hf : P.funcs[f]? = some fn) (hb : fn.body = some (.seq A (.seq (.region id #[om, od] false) rest)))
  (hm : om.op = .makeFunc (.func g) #[] #[.tmp t2, .tmp t3]) (hmg : om.guard = none) (hmd : om.dst = some t5) (hod : od.op = .defer { callee := .value (.tmp t5), args := #[], argTypes := #[] }) (hog : od.guard = none) (hodd : od.dst = none)
  (h5 : Nat.blt t5 fn.ntmps = true) (he : enterable P g = true) (hn : Nat.ble args.length fn.ntmps = true) (hq : quietN fn.ntmps = true)
  (h : WpC P fn.ntmps A (Env.args args) H (fun e env1 H1 => e = .normal ∧ ∃ v2 v3, env1 t2 = .lit v2 ∧ env1 t3 = .lit v3 ∧ WpC P fn.ntmps rest (env1.put (some t5) (.clo (.func g) [] [.lit v2, .lit v3])) H1 (DQ P fn g [.lit v2, .lit v3] K))) : TCall P f args H K noE := by
 intro us w hv hh
 refine (callsIn_wide (n := 0)).1 (callsIn_of_wp_marks hf hb trivial ?_)
 have hrel := rel_args (N := fn.ntmps) (Nat.le_of_ble_eq_true hn) hv hh rfl
 refine wpIn_seq (wpIn_mono (h ⟨none, w.heap.size, []⟩ 0 _ w hrel) ?_)
 rintro e a1 w1 ⟨env1, H1, ev1, r1, rfl, v2, v3, e2, e3, hrest⟩
 show (Code.seq _ rest).wpIn _ _ _ _ _ _
 refine wpIn_seq (wpIn_region_lit ?_)
 have q2 := r1.vals t2
 have q3 := r1.vals t3
 rw [e2] at q2
 rw [e3] at q3
 have q2 := q2.lit_inv
 have q3 := q3.lit_inv
 have hd1 := r1.quiet hq
 have hcl : VR w1 H1.dom (.clo (.func g) [] [.lit v2, .lit v3]) (.func (.func g) #[] #[v2, v3]) :=
  .clo [] [v2, v3] rfl (fun k x u hx => by simp at hx) rfl (VRs.cons (.lit v2) (VRs.cons (.lit v3) .nil)).2
 have r2 := r1.put (.refl H1 w1) r1.heap (d := some t5) (by simpa using h5) hcl
 have hwm : Region.wanted om (yielded [om, od].toArray a1.tmps) = true := by unfold Region.wanted; rw [hmg]
 unfold wpListIn
 rw [if_pos hwm]
 refine ⟨fun _ _ => trivial, ?_⟩
 have hrun1 : (om.semAt (none : Option Nat) a1.eval).run P w1 = .ok (.value (.func (.func g) #[] #[v2, v3])) w1 := by
  rw [sem_noDefer (by simp [noDefer, hm])]
  unfold execOp; rw [hm]
  have k2 : a1.eval (.tmp t2) = v2 := q2
  have k3 : a1.eval (.tmp t3) = v3 := q3
  simp only [List.map_toArray, List.map_cons, List.map_nil, k2, k3]
  rfl
 rw [show Fence.wide.round = none from rfl, hrun1]
 show wpListIn _ _ _ _ _ _ _ _
 rw [hmd]
 generalize ha2 : a1.put (some t5) (.func (.func g) #[] #[v2, v3]) = a2 at r2 ⊢
 have hd2 : a2.defers = [] := by rw [← ha2]; exact hd1
 have hwd : Region.wanted od (yielded [om, od].toArray a2.tmps) = true := by unfold Region.wanted; rw [hog]
 have h5v : a2.eval (.tmp t5) = .func (.func g) #[] #[v2, v3] := by
  have := r2.vals t5
  rw [show (env1.put (some t5) (.clo (.func g) [] [.lit v2, .lit v3])) t5 = .clo (.func g) [] [.lit v2, .lit v3] by simp [Env.put]] at this
  obtain ⟨us1, vs1, k1, k2, k3⟩ := this.clo_inv
  obtain rfl := k2.nil_inv
  obtain ⟨x1, l1, rfl, y1, k3⟩ := k3.cons_inv
  obtain ⟨x2, l2, rfl, y2, k3⟩ := k3.cons_inv
  obtain rfl := k3.nil_inv
  obtain rfl := y1.lit_inv
  obtain rfl := y2.lit_inv
  exact k1
 unfold wpListIn
 rw [if_pos hwd]
 refine ⟨fun _ _ => trivial, ?_⟩
 have hrun2 : (od.semAt (none : Option Nat) a2.eval).run P w1 = .ok (.defer { target := .fn (.func g) #[v2, v3], args := #[] }) w1 := by
  rw [Oper.semAt_none]
  unfold execOp; rw [hod]
  simp only [resolve, h5v, Deferred.ofValue, Sem.run_bind, Sem.run_pure, Result.andThen_ok, List.map_toArray, List.map_nil]
  rfl
 rw [show Fence.wide.round = none from rfl, hrun2]
 show wpListIn _ _ _ _ _ _ _ _
 rw [hodd]
 show Code.wpIn _ _ _ _ _ _ _
 have r3 : Rel ⟨none, w.heap.size, [{ target := .fn (.func g) #[v2, v3], args := #[] }]⟩ fn.ntmps (env1.put (some t5) (.clo (.func g) [] [.lit v2, .lit v3])) H1 { a2 with defers := { target := .fn (.func g) #[v2, v3], args := #[] } :: a2.defers } w1 := by
  refine ⟨r2.size, r2.vals, r2.heap, r2.base, ⟨fun d hd D => ?_, [], ?_, fun d hd => (by simp at hd), .nil⟩, r2.round, fun _ => ?_⟩
  ·simp only [List.mem_singleton] at hd; subst hd; simp
  ·rw [hd2]; rfl
  ·rw [hd2]
 refine wpIn_mono (hrest _ 0 _ w1 r3) ?_
 rintro e a3 w3 ⟨env3, H3, ev3, r4, q⟩
 have hd3 := r4.quiet hq
 have inv : ∀ w2, (invoke (.fn (.func g) #[v2, v3]) #[]).run P w2 = .ok (.enter g #[v2, v3]) w2 := fun w2 => by
  simp [invoke, go_sem, enterable.run he]
 have fin : ∀ u, u ≠ FrameMode.run → DCall P g [.lit v2, .lit v3] H3 u (fun u1 H2 => settle u1 = .returning ∧ ∃ vs, ResV P env3 H2 fn.results.toList vs ∧ K (resOf vs) H2) →
   LeavesInM Fence.wide 0 P fn a3.tmps (fun e w' => ∃ H', Evol H w H' w' ∧ HeapR w' H' ∧ (match e with | .returned u => ∃ v, VR w' H'.dom v u ∧ K v H' | .panicked ch => noE ch H' | .outgrown => False)) a3.defers u w3 := by
  intro u hu hc
  rw [hd3]
  refine ⟨hu, .inr ⟨fun hh => by simp [Fence.wide] at hh, .func g, #[v2, v3], g, #[v2, v3], rfl, inv w3, fun _ _ => trivial, ?_⟩⟩
  refine (hc [v2, v3] w3 (VRs.cons (.lit v2) (VRs.cons (.lit v3) .nil)) r4.heap).mono ?_
  rintro e u1 w4 ⟨⟨v, rfl⟩, H4, ev4, hh4, hs, vs, hrv, hk⟩
  show LeavesInM _ _ _ _ _ _ [] (settle u1) w4
  rw [hs]
  have r5 := r4.evol ev4 hh4
  obtain ⟨uu, k1, k2⟩ := results_run (P := P) r5 hrv
  exact ⟨uu, k1, H4, ev1.trans (ev3.trans ev4), hh4, _, k2, hk⟩
 cases e with
 | normal => exact fin .returning (by simp) q
 | ret => exact fin .returning (by simp) q
 | panic ch => exact fin (.panicking ch) (by simp) q
 | exit id => exact q.elim
 | goto l => exact q.elim
 | outgrown => exact q.elim
end Go.Vc
set_option linter.unusedVariables false
set_option linter.unusedSimpArgs false
namespace Go.Vc
open Go
section
variable {P : Program} {o : Oper} {env : Env} {H H0 : Heap} {K : AV → Heap → Prop} {E : List PanicEntry → Heap → Prop} {rs : List Res}
theorem WpO.callQ {f : FuncId} {args : Array Operand} {ts : Array TypeId} {xs : List AV} {t size : Nat} {es : List (List AV)} {F : Option (Nat × Nat) → AV} (ho : o.op = .call { callee := .value (.func f), args := args, argTypes := ts }) (he : enterable P f = true) (hx : forceL (args.toList.map env.ev) some = some xs) (hh : Holds H0 rs H)
  (h : TCall P f xs H (fun v H' => ∃ p, v = F p ∧ Own H t size es es.length p H') noE) (hk : ∀ p H', Holds H0 (.own t size p es :: rs) H' → K (F p) H') : WpO P o env H K E := by
 refine WpO.call ho he hx (h.mono ?_ (fun _ _ h => h.elim))
 rintro _ H' ⟨p, rfl, h2⟩; exact hk p H' ⟨H, hh, h2⟩
end
end Go.Vc
set_option linter.unusedVariables false
set_option linter.unusedSimpArgs false
namespace Go.Vc
open Go
section
variable {P : Program} {o : Oper} {env : Env} {H H0 : Heap} {K : AV → Heap → Prop} {E : List PanicEntry → Heap → Prop} {rs : List Res}
theorem Exact.sub {v u : AV} (h : Exact P o env H v) (hs : Sub v u) : Exact P o env H u := fun r n a w hop K' Q' h1 h2 =>
 h r n a w hop K' Q' (fun x x' H' w' ev hr hv ⟨e1, e2⟩ => h1 u x' H' w' ev hr (hs _ _ _ (e1 ▸ hv)) ⟨rfl, e2⟩) h2
theorem Exact.pv {v : AV} {c : List Prop} (h : pev P o.op env = some (v, c)) (hc : conj c) : Exact P o env H v := pev_sound h hc H
theorem Exact.lit2 {x y : Operand} {u u' v : Value} (hx : env.ev x = .lit u) (hy : env.ev y = .lit u') (hm : x ∈ o.op.operands) (hm' : y ∈ o.op.operands) (hn : noDefer o = true)
  (h : ∀ (a : Act) (w : World), a.eval x = u → a.eval y = u' → (execOp a.eval o).run P w = .ok (.value v) w) : Exact P o env H (.lit v) := by
 refine vB hn fun a w ⟨hr, hh⟩ => ?_
 have h1 := hr x hm; rw [hx] at h1
 have h2 := hr y hm'; rw [hy] at h2
 exact ⟨v, h a w h1.lit_inv h2.lit_inv, .lit _⟩
theorem eqGuard_int {op : BinOp} {t : TypeId} {x y : Operand} {k k' : IntKind} {a b : Int} {w : World} : (eqGuard op t x y (.int k a) (.int k' b)).run P w = .ok () w := eqGuard_noop (by intro cs; simp) (by simp)
theorem Exact.addW {t ty : TypeId} {x y : Operand} {a b : Int} (ho : o.op = .binOp .add t x y ty) (hx : env.ev x = .lit (.int .i64 a)) (hy : env.ev y = .lit (.int .i64 b)) : Exact P o env H (.lit (.int .i64 (Sh.wadd a b))) :=
 Exact.lit2 hx hy (by rw [ho]; simp [Op.operands]) (by rw [ho]; simp [Op.operands]) (by simp [noDefer, ho]) fun ac w h1 h2 => by
  simp [execOp, ho, h1, h2, eqGuard_int, binOp, Op.intArith, Sh.wadd, Result.andThen]
theorem Exact.subW {t ty : TypeId} {x y : Operand} {a b : Int} (ho : o.op = .binOp .sub t x y ty) (hx : env.ev x = .lit (.int .i64 a)) (hy : env.ev y = .lit (.int .i64 b)) : Exact P o env H (.lit (.int .i64 (Sh.wsub a b))) :=
 Exact.lit2 hx hy (by rw [ho]; simp [Op.operands]) (by rw [ho]; simp [Op.operands]) (by simp [noDefer, ho]) fun ac w h1 h2 => by
  simp [execOp, ho, h1, h2, eqGuard_int, binOp, Op.intArith, Sh.wsub, Result.andThen]
theorem Exact.mulW {t ty : TypeId} {x y : Operand} {a b : Int} (ho : o.op = .binOp .mul t x y ty) (hx : env.ev x = .lit (.int .i64 a)) (hy : env.ev y = .lit (.int .i64 b)) : Exact P o env H (.lit (.int .i64 (Sh.wmul a b))) :=
 Exact.lit2 hx hy (by rw [ho]; simp [Op.operands]) (by rw [ho]; simp [Op.operands]) (by simp [noDefer, ho]) fun ac w h1 h2 => by
  simp [execOp, ho, h1, h2, eqGuard_int, binOp, Op.intArith, Sh.wmul, Result.andThen]
theorem Exact.quoW {t ty : TypeId} {x y : Operand} {a b : Int} (ho : o.op = .binOp .quo t x y ty) (hx : env.ev x = .lit (.int .i64 a)) (hy : env.ev y = .lit (.int .i64 b)) (hb : b ≠ 0) : Exact P o env H (.lit (.int .i64 (Sh.wquo a b))) :=
 Exact.lit2 hx hy (by rw [ho]; simp [Op.operands]) (by rw [ho]; simp [Op.operands]) (by simp [noDefer, ho]) fun ac w h1 h2 => by
  simp [execOp, ho, h1, h2, eqGuard_int, binOp, Op.intDiv, hb, Sh.wquo, Result.andThen]
theorem Exact.subU8 {t ty : TypeId} {x y : Operand} {a b : UInt8} (ho : o.op = .binOp .sub t x y ty) (hx : env.ev x = .lit (.int .u8 (a.toNat : Int))) (hy : env.ev y = .lit (.int .u8 (b.toNat : Int))) (hb : b ≤ a) : Exact P o env H (.lit (.int .u8 ((a - b).toNat : Int))) := by
 have h1 : b.toNat ≤ a.toNat := UInt8.le_iff_toNat_le.1 hb
 have h2 : ((a - b).toNat : Int) = (a.toNat : Int) - (b.toNat : Int) := by rw [UInt8.toNat_sub_of_le _ _ hb]; omega
 have h3 := a.toNat_lt
 have h4 : pev P o.op env = some (.lit (.int .u8 ((a.toNat : Int) - (b.toNat : Int))), [inR .u8 ((a.toNat : Int) - (b.toNat : Int))]) := by rw [ho]; simp only [pev, hx, hy, bin, if_true]
 rw [h2]
 exact pev_sound h4 (show 0 ≤ (a.toNat : Int) - (b.toNat : Int) ∧ (a.toNat : Int) - (b.toNat : Int) ≤ 255 from ⟨by omega, by omega⟩) H
theorem Exact.negW {t : TypeId} {x : Operand} {a : Int} (ho : o.op = .unOp .neg t x) (hx : env.ev x = .lit (.int .i64 a)) : Exact P o env H (.lit (.int .i64 (Sh.wsub 0 a))) :=
 Exact.litRun hx (by rw [ho]; simp [Op.operands]) (by simp [noDefer, ho]) fun ac w _ h1 => by
  simp [execOp, ho, h1, Op.unary, Op.intArith, Sh.wsub, Result.andThen]
theorem Exact.xorW {t : TypeId} {x : Operand} {a : Int} (ho : o.op = .unOp .xor t x) (hx : env.ev x = .lit (.int .i64 a)) : Exact P o env H (.lit (.int .i64 (Sh.wxor (-1) a))) :=
 Exact.litRun hx (by rw [ho]; simp [Op.operands]) (by simp [noDefer, ho]) fun ac w _ h1 => by
  simp only [execOp, ho, h1, Op.unary, Op.intBits, Sh.wxor]; rfl
theorem vI {β : Type} {f : FuncId} {args : Array Operand} {ts : Array TypeId} {xs : List AV} (n : Nat) {V : β → AV} {A : β → List Res} (ho : o.op = .call { callee := .value (.func f), args := args, argTypes := ts }) (he : enterable P f = true) (hx : forceL (args.toList.map env.ev) some = some xs) (hh : Holds H0 rs H)
  (h : ∀ H1, H0.le H1 → Holds H1 (rs.take n) H → TCall P f xs H (fun u H' => ∃ b, u = V b ∧ Holds H1 (A b) H') noE)
  (hk : ∀ b H', Holds H0 (A b ++ rs.drop n) H' → K (V b) H') : WpO P o env H K E := by
 have hh' : Holds H0 (rs.take n ++ rs.drop n) H := by rw [List.take_append_drop]; exact hh
 obtain ⟨H1, k1, k2⟩ := hh'.app
 refine WpO.call ho he hx ((h H1 k1.le k2).mono ?_ (fun _ _ h => h.elim))
 rintro _ H' ⟨b, rfl, h'⟩
 exact hk b H' (Holds.app_of k1 h')
theorem WpO.invoke {x : Operand} {name : String} {ts : Array TypeId} {t : TypeId} {f : FuncId} {v : AV} (ho : o.op = .call { callee := .invoke x name, args := #[], argTypes := ts }) (hx : env.ev x = .ifc t v) (he : enterable P f = true)
  (hm : ∀ (u : Value) (w : World), VR w H.dom v u → (method (P.types.size + Made.depth) t u name).run P w = .ok (f, u) w) (h : TCall P f [v] H K E) : WpO P o env H K E := fun r n a w hop K' Q' h1 h2 => by
 obtain ⟨hr, hh⟩ := hop
 have hv := hr x (by rw [ho]; simp [Op.operands, Call.operands])
 rw [hx] at hv
 obtain ⟨u, hu, hv⟩ := hv.ifc_inv
 refine h.wp (by simp [noDefer, ho]) r n (us := [u]) (.cons hv .nil) hh ?_ K' Q' h1 h2
 have h3 := hm u w hv
 have h4 := enterable.run he #[u] w
 have h5 : ∀ (args : Array Value), args = #[Value.iface t u] → (match args[0]? with
   | some recv => callMethod recv name (args.extract 1 args.size)
   | _ => stuck "call: a method without a receiver" : Sem Next).run P w = .ok (.enter f #[u]) w := by
  rintro _ rfl
  simp [callMethod, h3, h4, Result.andThen]
 simp only [execOp, ho, resolve, hu, Sem.run_bind, Sem.run_pure, Result.andThen, Go.invoke]
 exact h5 _ (by simp)
end
theorem WpO.thawK {P : Program} {o : Oper} {env : Env} {H H0 : Heap} {K : AV → Heap → Prop} {E : List PanicEntry → Heap → Prop} {rs : List Res} {t ty size i : Nat} {p : Option (Nat × Nat)} {es : List (List AV)} {v : AV} (hh : Holds H0 rs H) (hi : rs[i]? = some (.own ty size p es)) (ht : env t = .own es.length p) (hx : ∀ H', Holds H0 (rs.eraseIdx i) H' → Exact P o (env.put (some t) (.rows size es)) H' v) (k : ∀ H', Holds H0 (rs.eraseIdx i) H' → K v H') : WpO P o env H K E :=
 WpO.thawT hh hi ht fun H' hH => ⟨hx H' hH, k H' hH⟩
theorem Up.ifc {H H' : Heap} {t : TypeId} {v u : AV} (h : Up H v H' u) : Up H (.ifc t v) H' (.ifc t u) := ⟨h.1, fun w x hh hv => by
 obtain ⟨y, rfl, hv2⟩ := hv.ifc_inv
 exact .ifc (h.2 w y hh hv2)⟩
theorem WpC.iceI {P : Program} {N : Nat} {c : Code} {env : Env} {H H0 : Heap} {Q : QC} {rs : List Res} {t i g ty : Nat} {it : TypeId} {cs : List AV} (h : Holds H0 rs H) (hi : rs[i]? = some (.cell g ty cs)) (ht : env t = .ifc it (.lit (.pointer (some ⟨g, 0, none⟩)))) (k : ∀ H', Holds H0 (rs.eraseIdx i) H' → WpC P N c (env.put (some t) (.ifc it (.rop cs))) H' Q) : WpC P N c env H Q := by
 obtain ⟨H1, ⟨k1, rfl⟩, k2, k3, k4⟩ := h.at_ hi
 refine WpC.up (H' := H1) (t := t) (u := .ifc it (.rop cs)) ?_ (k H1 k3)
 rw [ht]
 exact Up.ifc (Up.rop (vS k1 _) (uO _ _ _) k1)
end Go.Vc
set_option linter.unusedVariables false
set_option linter.unusedSimpArgs false
namespace Go.Vc
open Go Go.Sh
section
variable {P : Program} {o : Oper} {env : Env} {H H0 : Heap} {K : AV → Heap → Prop} {E : List PanicEntry → Heap → Prop} {rs : List Res}
theorem err_inv {w : World} {D : Nat → Prop} {e : Option GFault} {u : Value} (h : VR w D (errA e) u) : (e.isNone = true ∧ u = .nilIface) ∨ (e.isNone = false ∧ ∃ t v, u = .iface t v) := by
  cases e with
  | none => exact .inl ⟨rfl, h.lit_inv⟩
  | some f => obtain ⟨v, rfl, _⟩ := VR.ifc_inv h; exact .inr ⟨rfl, _, _, rfl⟩
theorem Exact.errIs {e : Option GFault} {x : Operand} {t ty : TypeId} {ms : Array (String × TypeId)} (ho : o.op = .binOp .neq t x (.const .nilIface) ty) (hu : P.underlying t = some (.interface ms)) (hx : env.ev x = errA e) : Exact P o env H (bA e.isSome) := by
  refine vB (by simp [noDefer, ho]) fun a w ⟨hr, hh⟩ => ⟨.bool e.isSome, ?_, .lit _⟩
  have hv := hr x (by rw [ho]; simp [Op.operands])
  rw [hx] at hv
  have he : a.eval (.const .nilIface) = .nilIface := rfl
  rcases err_inv hv with ⟨h1, h2⟩ | ⟨h1, t', v, h2⟩
  · have h3 : e.isSome = false := by cases e with
      | none => rfl
      | some f => cases h1
    have k1 := eqv_run (P := P) (w := w) (t := t) (u := .nilIface) (u' := .nilIface) (b := true) (fun d => by simp [Op.equalIn, run_underlying hu]) (by rintro op (rfl | rfl) <;> rfl)
    have k2 : ∀ xo, (eqGuard .neq t xo (.const .nilIface) .nilIface .nilIface).run P w = .ok () w := fun xo => by unfold eqGuard; simp
    unfold execOp; rw [ho, h3]
    simp [h2, he, k1.2, k2]
  · have h3 : e.isSome = true := by cases e with
      | none => cases h1
      | some f => rfl
    have k1 := eqv_run (P := P) (w := w) (t := t) (u := .iface t' v) (u' := .nilIface) (b := false) (fun d => by simp [Op.equalIn, run_underlying hu]) (by rintro op (rfl | rfl) <;> rfl)
    have k2 : ∀ xo yo, (eqGuard .neq t xo yo (.iface t' v) .nilIface).run P w = .ok () w := fun xo yo => eqGuard_noop (by intro cs; simp) (by simp)
    unfold execOp; rw [ho, h3]
    simp [h2, he, k1.2, k2]
def mapP (g : Nat) (l : List (List UInt8 × GMacro)) : List (Nat × AObj) → Prop := fun bs => bs = [(g, AObj.map (kvM l))]
theorem mapP_put {g : Nat} {l : List (List UInt8 × GMacro)} {H1 H : Heap} : (Res.many (mapP g l)).put H1 H ↔ H1 g = none ∧ H = H1.set g (.map (kvM l)) := by
 constructor
 ·rintro ⟨bs, rfl, H2, h1, h2⟩
  have h1 : H2 = H1 := h1
  subst h1
  exact h2
 ·rintro h
  exact ⟨_, rfl, H1, rfl, h⟩
theorem Holds.mapAt {i g : Nat} {l : List (List UInt8 × GMacro)} (h : Holds H0 rs H) (hi : rs[i]? = some (.many (mapP g l))) : H g = some (.map (kvM l)) := by
 obtain ⟨H1, k1, _⟩ := h.at_ hi
 obtain ⟨_, rfl⟩ := mapP_put.1 k1
 exact uO _ _ _
theorem keyEq_kSM (s k : List UInt8) : keyEq (kSM s) (kSM k) = decide (s = k) := rfl
theorem mfind_kvM (s : List UInt8) : ∀ l : List (List UInt8 × GMacro), (mfind (kSM s) (kvM l)).map (·.2) = (getM s l).map fun m => AV.agg (cGMacro m)
 | [] => rfl
 | p :: l => by
  show (if keyEq (kSM s) (kSM p.1) = true then some (0, AV.agg (cGMacro p.2)) else (mfind (kSM s) (kvM l)).map fun q => (q.1 + 1, q.2)).map (·.2) = _
  rw [keyEq_kSM]
  by_cases e : s = p.1
  ·rw [if_pos (decide_eq_true e)]; unfold getM; rw [if_pos e]; rfl
  ·rw [if_neg (by simpa using e)]; unfold getM; rw [if_neg e, ← mfind_kvM s l]
   cases mfind (kSM s) (kvM l) <;> rfl
theorem mget_kvM (s : List UInt8) (l : List (List UInt8 × GMacro)) : mget (kvM l) (kSM s) = (getM s l).map fun m => AV.agg (cGMacro m) := mfind_kvM s l
theorem mput_kvM (s : List UInt8) (v : GMacro) : ∀ l : List (List UInt8 × GMacro), mput (kvM l) (kSM s) (.agg (cGMacro v)) = kvM (putM s v l)
 | [] => rfl
 | p :: l => by
  show mput ((kSM p.1, AV.agg (cGMacro p.2)) :: kvM l) (kSM s) (.agg (cGMacro v)) = _
  rw [mput_cons]
  show (if keyEq (kSM s) (kSM p.1) = true then _ else _) = _
  rw [keyEq_kSM]
  by_cases e : s = p.1
  ·rw [if_pos (decide_eq_true e)]; unfold putM; rw [if_pos e]; rfl
  ·rw [if_neg (by simpa using e)]; unfold putM; rw [if_neg e, mput_kvM s v l]; rfl
theorem keysOk_kvM {kt : TypeId} (hu : P.underlying kt = some .string) (l : List (List UInt8 × GMacro)) : keysOk P kt (kvM l) := by
 intro e he
 obtain ⟨p, _, rfl⟩ := List.mem_map.1 he
 simp only [isKey, hu, kSM]
def zMacro : GMacro := GMacro.mk ([] : List UInt8) false ([] : List (List UInt8)) false ([] : List GTok)
def macroZero : Value → Bool
 | .agg ⟨[.string ⟨⟨[]⟩⟩, .bool false, .slice none 0 0, .bool false, .slice none 0 0]⟩ => true
 | _ => false
theorem macroZero_eq {z : Value} (h : macroZero z = true) : z = .agg #[.string ⟨⟨[]⟩⟩, .bool false, .slice none 0 0, .bool false, .slice none 0 0] := by
 unfold macroZero at h
 split at h
 ·rfl
 ·cases h
def mapOk (P : Program) (mt : TypeId) : Bool :=
 match P.underlying mt with
 | some (.map kt et) => (match P.underlying kt with | some .string => true | _ => false) && (match zeroV P et with | some z => macroZero z | none => false)
 | _ => false
theorem mapOk_inv {mt : TypeId} (h : mapOk P mt = true) : ∃ kt et, P.underlying mt = some (.map kt et) ∧ P.underlying kt = some .string ∧ zeroV P et = some (.agg #[.string ⟨⟨[]⟩⟩, .bool false, .slice none 0 0, .bool false, .slice none 0 0]) := by
 unfold mapOk at h
 split at h
 ·rename_i kt et hu
  rw [Bool.and_eq_true] at h
  obtain ⟨h1, h2⟩ := h
  refine ⟨kt, et, hu, ?_, ?_⟩
  ·split at h1
   ·assumption
   ·cases h1
  ·split at h2
   ·rename_i z hz; rw [hz, macroZero_eq h2]
   ·cases h2
 ·cases h
theorem sub_zMacro : Sub (ofConst (.agg #[.string ⟨⟨[]⟩⟩, .bool false, .slice none 0 0, .bool false, .slice none 0 0])) (.agg (cGMacro zMacro)) :=
 Sub.agg (.cons (.refl _) (.cons (.refl _) (.cons (Sub.nil _) (.cons (.refl _) (.cons (Sub.nil _) .nil)))))
theorem Exact.lookM {mt : TypeId} {m k : Operand} {g : Nat} {l : List (List UInt8 × GMacro)} {s : List UInt8} (ho : o.op = .lookup mt m k true) (hok : mapOk P mt = true) (hm : env.ev m = .lit (.map (some g))) (hg : H g = some (.map (kvM l))) (hk : env.ev k = sA s) :
  Exact P o env H (.tup [.agg (cGMacro ((getM s l).getD zMacro)), bA (getM s l).isSome]) := by
 obtain ⟨kt, et, h1, h2, h3⟩ := mapOk_inv hok
 have hkv : litV (env.ev k) = some (kSM s) := by rw [hk]; rfl
 have hik : isKey P kt (kSM s) = true := by simp only [isKey, h2, kSM]
 cases hf : getM s l with
 | none => exact (Exact.lookup_none ho h1 h3 hm hg hkv hik (keysOk_kvM h2 l) (by rw [mget_kvM, hf]; rfl)).sub (Sub.tup (.cons sub_zMacro (.cons (.refl _) .nil)))
 | some v => exact Exact.lookup ho h1 hm hg hkv hik (keysOk_kvM h2 l) (by rw [mget_kvM, hf]; rfl)
theorem Exact.lookM0 {mt : TypeId} {m k : Operand} {g : Nat} {l : List (List UInt8 × GMacro)} {s : List UInt8} (ho : o.op = .lookup mt m k false) (hok : mapOk P mt = true) (hm : env.ev m = .lit (.map (some g))) (hg : H g = some (.map (kvM l))) (hk : env.ev k = sA s) :
  Exact P o env H (.agg (cGMacro ((getM s l).getD zMacro))) := by
 obtain ⟨kt, et, h1, h2, h3⟩ := mapOk_inv hok
 have hkv : litV (env.ev k) = some (kSM s) := by rw [hk]; rfl
 have hik : isKey P kt (kSM s) = true := by simp only [isKey, h2, kSM]
 cases hf : getM s l with
 | none => exact (Exact.lookup_none ho h1 h3 hm hg hkv hik (keysOk_kvM h2 l) (by rw [mget_kvM, hf]; rfl)).sub sub_zMacro
 | some v => exact Exact.lookup ho h1 hm hg hkv hik (keysOk_kvM h2 l) (by rw [mget_kvM, hf]; rfl)
theorem WpO.mkM {t : TypeId} (ho : o.op = .makeMap t none) (hh : Holds H0 rs H) (hk : ∀ g H', Holds H0 (.many (mapP g []) :: rs) H' → K (.lit (.map (some g))) H') : WpO P o env H K E :=
 WpO.makeMap ho fun g hg => hk g _ ⟨H, hh, mapP_put.2 ⟨hg, rfl⟩⟩
theorem WpO.updM {mt : TypeId} {m k x : Operand} {g i : Nat} {l : List (List UInt8 × GMacro)} {s : List UInt8} {v : GMacro} (ho : o.op = .mapUpdate mt m k x) (hok : mapOk P mt = true) (hm : env.ev m = .lit (.map (some g))) (hh : Holds H0 rs H) (hi : rs[i]? = some (.many (mapP g l))) (hk : env.ev k = sA s) (hx : env.ev x = .agg (cGMacro v))
  (hkk : ∀ H', Holds H0 (rs.set i (.many (mapP g (putM s v l)))) H' → K (.lit undef) H') : WpO P o env H K E := by
 obtain ⟨kt, et, h1, h2, h3⟩ := mapOk_inv hok
 obtain ⟨H1, k1, k2, k3, k4⟩ := hh.at_ hi
 obtain ⟨k5, rfl⟩ := mapP_put.1 k1
 refine WpO.mapUpdate (kv := kSM s) (v := .agg (cGMacro v)) ho h1 hm (uO _ _ _) (by rw [hk]; rfl) hx (by simp only [isKey, h2, kSM]) (keysOk_kvM h2 l) ?_
 rw [mput_kvM, vT]
 exact hkk _ (k4 _ _ (mapP_put.2 ⟨k5, rfl⟩))
theorem Exact.capNil {x : Operand} {t e : TypeId} (ho : o.op = .call { callee := .builtin .cap, args := #[x], argTypes := #[t] }) (ht : elemT P t = some e) (hx : env.ev x = .own 0 none) : Exact P o env H (iA 0) := by
 refine vB (by simp [noDefer, ho]) fun a w ⟨hr, hh⟩ => ⟨.int .i64 0, ?_, .lit _⟩
 have hv := hr x (by rw [ho]; simp [Op.operands, Call.operands])
 rw [hx] at hv
 obtain ⟨_, hv⟩ := hv.nil_inv
 have hu := underlying_of_elemT ht
 simp [execOp, ho, hv, resolve, Go.invoke, builtin, Builtin.cap_, run_underlying hu, Result.andThen, goInt]
theorem Exact.sliceNil {t e : TypeId} {x y : Operand} {k0 : IntKind} {size : Nat} (ho : o.op = .slice t x none (some y) none) (hx : env.ev x = .own 0 none) (hy : env.ev y = .lit (.int k0 0)) (ht : elemT P t = some e) (hsz : P.cellsOf e = size) (hz : size ≠ 0) : Exact P o env H (.own 0 none) := by
 apply vB (by simp [noDefer, ho])
 intro a w ⟨hr, hh⟩
 rw [ho] at hr
 have h0 := hr x (by simp [Op.operands])
 have h1 := hr y (by simp [Op.operands])
 rw [hx] at h0; rw [hy] at h1
 obtain ⟨_, e0⟩ := h0.nil_inv
 have e1 := h1.lit_inv
 have hu := underlying_of_elemT ht
 have hb := sliceBounds_run (P := P) (w := w) (isS := true) (len := 0) (cap := 0) (lo := none) (hi := some 0) (mx := none) (ul := none) (uh := some (.int k0 0)) (um := none) (.inl ⟨rfl, rfl⟩) (.inr ⟨_, _, rfl, rfl⟩) (.inl ⟨rfl, rfl⟩) (Nat.le_refl _) (Nat.le_refl _) trivial
 have hso := cellsOf_run (w := w) (P := P) (t := e) hsz hz
 refine ⟨.slice none 0 0, ?_, .own0⟩
 unfold execOp
 rw [ho]
 simp only [Option.map_none, Option.map_some, e0, e1, Instr.sliceAt, Instr.slice, Sem.run_bind, run_underlying hu, Result.andThen_ok, hb, hso, Sem.run_pure]
 rfl
end
end Go.Vc
