/-
  Panics that a deferred function recovers; calls that may panic. It hangs on no seat.
-/
import Derived.Test.YtffgaoehhmgbjaaDoorCl
import Derived.Test.YtffgaoehhmgbjaaDoorZs
import Derived.Recover
import Derived.RecoverIn
set_option linter.unusedVariables false
set_option linter.unusedSimpArgs false
namespace Go.Vc
open Go
section
variable {P : Program} {o : Oper} {env : Env} {H H0 : Heap} {K : AV → Heap → Prop} {E : List PanicEntry → Heap → Prop} {rs : List Res}
/-- the operation that panics -/
theorem WpO.panic {x : Operand} {t : TypeId} {v : Value} (ho : o.op = .panic x) (hx : env.ev x = .ifc t (.agg [.lit v])) (h : E [{ v := .iface t (.agg #[v]), recovered := false }] H) : WpO P o env H K E := fun r n a w ⟨hr, hh⟩ K' Q' _ h2 => by
  rw [ho] at hr
  have e0 := hr x (by simp [Op.operands])
  rw [hx] at e0
  obtain ⟨u, e1, e2⟩ := e0.ifc_inv
  obtain ⟨us, rfl, e3⟩ := e2.agg_inv
  obtain ⟨u1, us', rfl, e4, e5⟩ := e3.cons_inv
  obtain rfl := e5.nil_inv
  obtain rfl := e4.lit_inv
  refine ⟨fun _ _ => trivial, ?_⟩
  rw [sem_noDefer (by simp [noDefer, ho])]
  have hrun : (execOp a.eval o).run P w = .halt (.panic (.iface t (.agg #[u1]))) w := by
    unfold execOp; rw [ho]
    simp only [e1, Instr.panic, Sem.run_bind]
    rfl
  rw [hrun]
  exact h2 _ H w (.refl _ _) hh h
/-- what is nil, or not; a type that is asked for -/
theorem Exact.litRun {x : Operand} {u v : Value} (hx : env.ev x = .lit u) (hm : x ∈ o.op.operands) (hn : noDefer o = true) (h : ∀ (a : Act) (w : World), (∀ y ∈ o.op.operands, VR w H.dom (env.ev y) (a.eval y)) → a.eval x = u → (execOp a.eval o).run P w = .ok (.value v) w) : Exact P o env H (.lit v) := by
  apply Exact.of_run hn
  intro a w ⟨hr, hh⟩
  have h0 := hr x hm
  rw [hx] at h0
  exact ⟨v, h a w hr h0.lit_inv, .lit _⟩
theorem Exact.ifaceNil {x : Operand} {t ty : TypeId} {u v : Value} {ms : Array (String × TypeId)} (ho : o.op = .binOp .eql t x (.const .nilIface) ty) (hu : P.underlying t = some (.interface ms)) (hx : env.ev x = .lit u) (hv : v = .bool true ∧ u = .nilIface ∨ v = .bool false ∧ ∃ t u', u = .iface t u') : Exact P o env H (.lit v) :=
  Exact.litRun hx (by rw [ho]; simp [Op.operands]) (by simp [noDefer, ho]) fun a w hr e => by
    have hc : a.eval (.const .nilIface) = .nilIface := rfl
    rcases hv with ⟨rfl, rfl⟩ | ⟨rfl, t', u', rfl⟩
    · have h1 := eqv_run (P := P) (w := w) (t := t) (u := .nilIface) (u' := .nilIface) (b := true) (fun d => by simp [Op.equalIn, run_underlying hu]) (by rintro op (rfl | rfl) <;> rfl)
      have h2 : ∀ xo, (eqGuard .eql t xo (.const .nilIface) .nilIface .nilIface).run P w = .ok () w := fun xo => by unfold eqGuard; simp
      unfold execOp; rw [ho]
      simp [e, hc, h1.1, h2]
    · have h1 := eqv_run (P := P) (w := w) (t := t) (u := .iface t' u') (u' := .nilIface) (b := false) (fun d => by simp [Op.equalIn, run_underlying hu]) (by rintro op (rfl | rfl) <;> rfl)
      have h2 : ∀ xo yo, (eqGuard .eql t xo yo (.iface t' u') .nilIface).run P w = .ok () w := fun xo yo => eqGuard_noop (by intro cs; simp) (by simp)
      unfold execOp; rw [ho]
      simp [e, hc, h1.1, h2]
theorem Exact.assertS {x : Operand} {t s : TypeId} {u : Value} (ho : o.op = .typeAssert x t s true) (hu : (match P.underlying s with | some (.struct _) => true | _ => false) = true) (hx : env.ev x = .lit (.iface s u)) : Exact P o env H (.lit (.tuple #[u, .bool true])) := by
  refine Exact.litRun hx (by rw [ho]; simp [Op.operands]) (by simp [noDefer, ho]) fun a w hr e => ?_
  cases hs : P.underlying s with
  | none => rw [hs] at hu; cases hu
  | some k =>
    cases k with
    | struct fs =>
      unfold execOp; rw [ho]
      simp [e, Instr.typeAssert, run_underlying hs]
    | _ => rw [hs] at hu; cases hu
theorem Exact.extractL {x : Operand} {i : Nat} {us : Array Value} {v : Value} (ho : o.op = .extract x i) (hx : env.ev x = .lit (.tuple us)) (hv : us[i]? = some v) : Exact P o env H (.lit v) :=
  Exact.litRun hx (by rw [ho]; simp [Op.operands]) (by simp [noDefer, ho]) fun a w hr e => by
    unfold execOp; rw [ho]
    simp [e, Instr.extract, hv]
/-- a call that may panic, and turns nothing -/
theorem WpO.callPv {α : Type} {f : FuncId} {args : Array Operand} {ts : Array TypeId} {xs : List AV} {pe : Int → List PanicEntry} {r : Sum Int α} {V : α → AV} (ho : o.op = .call { callee := .value (.func f), args := args, argTypes := ts }) (he : enterable P f = true) (hx : forceL (args.toList.map env.ev) some = some xs)
    (h : TCall P f xs H (fun v H' => ∃ x, r = .inr x ∧ v = V x ∧ H' = H) (fun ch H' => ∃ e, r = .inl e ∧ ch = pe e ∧ H.le H')) (hk : ∀ x, r = .inr x → K (V x) H) (hE : ∀ e H', r = .inl e → H.le H' → E (pe e) H') : WpO P o env H K E := by
  refine WpO.call ho he hx (h.mono ?_ ?_)
  · rintro _ _ ⟨x, h1, rfl, rfl⟩; exact hk x h1
  · rintro _ H' ⟨e, h1, rfl, h2⟩; exact hE e H' h1 h2
theorem Holds.ownAt {i t size : Nat} {p : Option (Nat × Nat)} {es : List (List AV)} (h : Holds H0 rs H) (hi : rs[i]? = some (.own t size p es)) : ∃ H1, Own H1 t size es es.length p H := by
  obtain ⟨H1, k, _⟩ := h.at_ hi
  exact ⟨H1, k⟩
theorem Holds.app : ∀ {as bs : List Res} {H : Heap}, Holds H0 (as ++ bs) H → ∃ H1, Holds H0 bs H1 ∧ Holds H1 as H
  | [], bs, H, h => ⟨H, h, rfl⟩
  | r :: as, bs, H, ⟨H2, h1, h2⟩ => by obtain ⟨H1, k1, k2⟩ := Holds.app h1; exact ⟨H1, k1, H2, k2, h2⟩
theorem Holds.app_of : ∀ {as bs : List Res} {H1 H : Heap}, Holds H0 bs H1 → Holds H1 as H → Holds H0 (as ++ bs) H
  | [], bs, H1, H, h, k => by rw [show H = H1 from k]; exact h
  | r :: as, bs, H1, H, h, ⟨H2, k1, k2⟩ => ⟨H2, Holds.app_of h k1, k2⟩
/-- a call that may panic, and works at the things in front -/
theorem WpO.callFP {α β γ : Type} {f : FuncId} {args : Array Operand} {ts : Array TypeId} {xs : List AV} (n : Nat) {pe : Int → List PanicEntry} {r : Sum Int α} {V : α → AV} {A : α → β → List Res} {Y : γ → List Res} (ho : o.op = .call { callee := .value (.func f), args := args, argTypes := ts }) (he : enterable P f = true) (hx : forceL (args.toList.map env.ev) some = some xs) (hh : Holds H0 rs H)
    (h : ∀ H1, H0.le H1 → Holds H1 (rs.take n) H → TCall P f xs H (fun v H' => ∃ x, r = .inr x ∧ v = V x ∧ ∃ b, Holds H1 (A x b) H') (fun ch H' => ∃ e, r = .inl e ∧ ch = pe e ∧ ∃ H2, Heap.le H2 H' ∧ ∃ y, Holds H1 (Y y) H2))
    (hk : ∀ x b H', r = .inr x → Holds H0 (A x b ++ rs.drop n) H' → K (V x) H') (hE : ∀ e y H2 H', r = .inl e → Heap.le H2 H' → Holds H0 (Y y ++ rs.drop n) H2 → E (pe e) H') : WpO P o env H K E := by
  obtain ⟨H1, k1, k2⟩ := Holds.app (as := rs.take n) (bs := rs.drop n) (H0 := H0) (H := H) (by rw [List.take_append_drop]; exact hh)
  refine WpO.call ho he hx ((h H1 k1.le k2).mono ?_ ?_)
  · rintro _ H' ⟨x, h1, rfl, b, h2⟩; exact hk x b H' h1 (Holds.app_of k1 h2)
  · rintro _ H' ⟨e, h1, rfl, H2, h2, y, h3⟩; exact hE e y H2 H' h1 h2 (Holds.app_of k1 h3)
/-- .. that may not panic -/
theorem WpO.callF {β : Type} {f : FuncId} {args : Array Operand} {ts : Array TypeId} {xs : List AV} (n : Nat) {v : AV} {A : β → List Res} (ho : o.op = .call { callee := .value (.func f), args := args, argTypes := ts }) (he : enterable P f = true) (hx : forceL (args.toList.map env.ev) some = some xs) (hh : Holds H0 rs H)
    (h : ∀ H1, H0.le H1 → Holds H1 (rs.take n) H → TCall P f xs H (fun u H' => u = v ∧ ∃ b, Holds H1 (A b) H') noE)
    (hk : ∀ b H', Holds H0 (A b ++ rs.drop n) H' → K v H') : WpO P o env H K E := by
  obtain ⟨H1, k1, k2⟩ := Holds.app (as := rs.take n) (bs := rs.drop n) (H0 := H0) (H := H) (by rw [List.take_append_drop]; exact hh)
  refine WpO.call ho he hx ((h H1 k1.le k2).mono ?_ (fun _ _ h => h.elim))
  rintro _ H' ⟨rfl, b, h2⟩; exact hk b H' (Holds.app_of k1 h2)
/-- a list against nil: it may be nil if it is empty -/
theorem WpO.isNil {t ty e : TypeId} {x y : Operand} {size : Nat} {es : List (List AV)} (ho : o.op = .binOp .eql t x y ty) (ht : elemT P t = some e) (hx : env.ev x = .rows size es) (hy : env.ev y = .own 0 none) (hk : ∀ b : Bool, (b = true → es = []) → K (.lit (.bool b)) H) : WpO P o env H K E := by
  apply WpO.of_run (by simp [noDefer, ho])
  intro a w ⟨hr, hh⟩
  rw [ho] at hr
  have h0 := hr x (by simp [Op.operands])
  have h1 := hr y (by simp [Op.operands])
  rw [hx] at h0; rw [hy] at h1
  have hu := underlying_of_elemT ht
  obtain ⟨_, h1⟩ := h1.nil_inv
  rcases h0.rows_inv with ⟨e0, h0⟩ | ⟨A, c, us, h0, _⟩
  · have k1 := eqv_run (P := P) (w := w) (t := t) (u := .slice none 0 0) (u' := .slice none 0 0) (b := true) (fun d => by simp [Op.equalIn, run_underlying hu]) (by rintro op (rfl | rfl) <;> rfl)
    have k2 : ∀ xo yo, (eqGuard .eql t xo yo (.slice none 0 0) (.slice none 0 0)).run P w = .ok () w := fun xo yo => eqGuard_noop (by intro cs; simp) (by simp)
    refine ⟨.lit (.bool true), .bool true, H, w, ?_, .refl _ _, hh, .lit _, hk true (fun _ => e0)⟩
    unfold execOp; rw [ho]
    simp [h0, h1, k1.1, k2]
  · have k1 := eqv_run (P := P) (w := w) (t := t) (u := .slice (some A) es.length c) (u' := .slice none 0 0) (b := false) (fun d => by simp [Op.equalIn, run_underlying hu]) (by rintro op (rfl | rfl) <;> rfl)
    have k2 : ∀ xo yo, (eqGuard .eql t xo yo (.slice (some A) es.length c) (.slice none 0 0)).run P w = .ok () w := fun xo yo => eqGuard_noop (by intro cs; simp) (by simp)
    refine ⟨.lit (.bool false), .bool false, H, w, ?_, .refl _ _, hh, .lit _, hk false (fun h => by cases h)⟩
    unfold execOp; rw [ho]
    simp [h0, h1, k1.1, k2]
/-- a call that makes a slice -/
theorem WpO.callO {f : FuncId} {args : Array Operand} {ts : Array TypeId} {xs : List AV} {t size : Nat} {es : List (List AV)} (ho : o.op = .call { callee := .value (.func f), args := args, argTypes := ts }) (he : enterable P f = true) (hx : forceL (args.toList.map env.ev) some = some xs) (hh : Holds H0 rs H)
    (h : TCall P f xs H (fun v H' => ∃ p, v = .own es.length p ∧ Own H t size es es.length p H') noE) (hk : ∀ p H', Holds H0 (.own t size p es :: rs) H' → K (.own es.length p) H') : WpO P o env H K E := by
  refine WpO.call ho he hx (h.mono ?_ (fun _ _ h => h.elim))
  rintro _ H' ⟨p, rfl, h2⟩; exact hk p H' ⟨H, hh, h2⟩
/-- one thing brought to the front, and back -/
theorem Holds.front {i : Nat} {r : Res} (h : Holds H0 rs H) (hi : rs[i]? = some r) : Holds H0 (r :: rs.eraseIdx i) H := by
  obtain ⟨H1, k1, k2, k3, k4⟩ := h.at_ hi
  exact ⟨H1, k3, k1⟩
def insR : Nat → Res → List Res → List Res
  | 0, r, l => r :: l
  | _ + 1, r, [] => [r]
  | i + 1, r, x :: l => x :: insR i r l
theorem Holds.back : ∀ (i : Nat) {r : Res} {l : List Res} {H : Heap}, Holds H0 (r :: l) H → Holds H0 (insR i r l) H
  | 0, r, l, H, h => h
  | i + 1, r, [], H, h => h
  | i + 1, r, x :: l, H, ⟨H1, ⟨H2, h1, h2⟩, h3⟩ => by
    obtain ⟨H3, k1, k2⟩ := Res.swap h2 h3
    exact ⟨H3, Holds.back i ⟨H2, h1, k1⟩, k2⟩
/-- a cell told in other words -/
theorem Holds.recell {i g t : Nat} {cs cs' : List AV} (h : Holds H0 rs H) (hi : rs[i]? = some (.cell g t cs)) (e : cs = cs') : Holds H0 (rs.set i (.cell g t cs')) H := by
  subst e
  obtain ⟨H1, k1, k2, k3, k4⟩ := h.at_ hi
  exact k4 _ _ k1
end
section code
variable {P : Program} {N : Nat} {c : Code} {env : Env} {H H0 : Heap} {Q : QC} {rs : List Res}
theorem WpC.weak {H' : Heap} (hw : Wk H H') (h : WpC P N c env H' Q) : WpC P N c env H Q :=
  WpC.conv (fun fr a w r => ⟨(hw w).1, r.evol (hw w).1 ((hw w).2 r.heap)⟩) h
/-- a slice in a cell's field grows no more: it is a list -/
theorem WpC.freezeC {ty size i j g t k : Nat} {p : Option (Nat × Nat)} {es : List (List AV)} {cs : List AV} (h : Holds H0 rs H) (hj : rs[j]? = some (.own ty size p es)) (hi : (rs.eraseIdx j)[i]? = some (.cell g t cs)) (hk : cs[k]? = some (.own es.length p))
    (kk : ∀ H', Holds H0 ((rs.eraseIdx j).set i (.cell g t (cs.set k (.rows size es)))) H' → WpC P N c env H' Q) : WpC P N c env H Q := by
  obtain ⟨H1, k1, k2, k3, k4⟩ := h.at_ hj
  obtain ⟨H2, ⟨hg, rfl⟩, m2, m3, m4⟩ := k3.at_ hi
  have up := Own.up k1
  have hle := k1.le
  refine WpC.weak (H' := H2.set g (.cells t (cs.set k (.rows size es)))) (fun w => ?_) (kk _ (m4 _ _ ⟨hg, rfl⟩))
  have hd : (H2.set g (.cells t (cs.set k (.rows size es)))).dom = (H2.set g (.cells t cs)).dom := by
    funext q
    apply propext
    unfold Heap.dom
    by_cases e : q = g
    · subst e; simp only [Heap.set_same]
      constructor
      · rintro ⟨o, ho, h⟩; injection ho with ho; subst ho; exact ⟨_, rfl, rfl⟩
      · rintro ⟨o, ho, h⟩; injection ho with ho; subst ho; exact ⟨_, rfl, rfl⟩
    · simp only [Heap.set_ne _ _ e]
  have ev := Evol.drop w hle
  refine ⟨⟨rfl, rfl, rfl, Nat.le_refl _, fun _ _ _ => rfl, fun q hq => ev.dom q (by rw [hd] at hq; exact hq)⟩, fun hh q o hq => ?_⟩
  rw [hd]
  by_cases e : q = g
  · subst e
    rw [Heap.set_same] at hq; injection hq with hq; subst hq
    obtain ⟨us, h1, h2⟩ := hh q _ (hle _ _ (Heap.set_same _ _ _))
    refine ⟨us, h1, by simp [h2.1], fun n x u hx hu => ?_⟩
    rw [List.getElem?_set] at hx
    split at hx
    · rename_i e2; subst e2
      split at hx
      · injection hx with hx; subst hx
        exact up.2 w u hh (h2.2 k _ u hk hu)
      · cases hx
    · exact (h2.2 n x u hx hu).evol ev
  · rw [Heap.set_ne _ _ e] at hq
    have hx : (H2.set g (.cells t cs)) q = some o := by rw [Heap.set_ne _ _ e]; exact hq
    exact (hh.drop hle) q o hx
theorem Sub.litAgg (v : Value) : Sub (.lit (.agg #[v])) (.agg [.lit v]) := fun w D u h => by
  obtain rfl := h.lit_inv
  exact .agg [v] rfl (VRs.cons (.lit v) .nil).2
theorem VEnds.pan {fn : Func} {K : AV → Heap → Prop} {E : List PanicEntry → Heap → Prop} {ch : List PanicEntry} (h : E ch H) : VEnds (P := P) fn K E (.panic ch) env H := h
end code

/-- the end of code in the midst of a function -/
def DEnds (K : Env → Heap → Prop) (E : List PanicEntry → Env → Heap → Prop) : QC
  | .normal, env, H | .ret, env, H => K env H
  | .panic ch, env, H => E ch env H
  | _, _, _ => False
theorem DEnds.ret_ {K : Env → Heap → Prop} {E : List PanicEntry → Env → Heap → Prop} {env : Env} {H : Heap} (h : K env H) : DEnds K E .ret env H := h
theorem DEnds.end_ {K : Env → Heap → Prop} {E : List PanicEntry → Env → Heap → Prop} {env : Env} {H : Heap} (h : K env H) : DEnds K E .normal env H := h
theorem DEnds.un_normal {K : Env → Heap → Prop} {E : List PanicEntry → Env → Heap → Prop} {env : Env} {H : Heap} (h : DEnds K E .normal env H) : K env H := h
theorem DEnds.un_ret {K : Env → Heap → Prop} {E : List PanicEntry → Env → Heap → Prop} {env : Env} {H : Heap} (h : DEnds K E .ret env H) : K env H := h
theorem DEnds.un_panic {K : Env → Heap → Prop} {E : List PanicEntry → Env → Heap → Prop} {ch : List PanicEntry} {env : Env} {H : Heap} (h : DEnds K E (.panic ch) env H) : E ch env H := h
theorem DEnds.un_exit {K : Env → Heap → Prop} {E : List PanicEntry → Env → Heap → Prop} {i : Nat} {env : Env} {H : Heap} (h : DEnds K E (.exit i) env H) : False := h
theorem DEnds.un_goto {K : Env → Heap → Prop} {E : List PanicEntry → Env → Heap → Prop} {i : Nat} {env : Env} {H : Heap} (h : DEnds K E (.goto i) env H) : False := h
theorem DEnds.un_outgrown {K : Env → Heap → Prop} {E : List PanicEntry → Env → Heap → Prop} {env : Env} {H : Heap} (h : DEnds K E .outgrown env H) : False := h
theorem DEnds.pan {K : Env → Heap → Prop} {E : List PanicEntry → Env → Heap → Prop} {ch : List PanicEntry} {env : Env} {H : Heap} (h : E ch env H) : DEnds K E (.panic ch) env H := h

/-! ## deferred calls -/
/-- a function entered as a deferred call of a frame in mode u, which it leaves in another one -/
def DCall (P : Program) (f : FuncId) (args : List AV) (H : Heap) (u : FrameMode) (K : FrameMode → Heap → Prop) : Prop :=
  ∀ us w, VRs w H.dom args us → HeapR w H → CallsDIn (fen none) 0 P f us.toArray u w fun e u1 w' => (∃ v, e = .returned v) ∧ ∃ H', Evol H w H' w' ∧ HeapR w' H' ∧ K u1 H'
theorem DCall.mono {P : Program} {f : FuncId} {args : List AV} {H : Heap} {u : FrameMode} {K K' : FrameMode → Heap → Prop} (h : DCall P f args H u K) (hk : ∀ u H, K u H → K' u H) : DCall P f args H u K' := fun us w hv hh =>
  (h us w hv hh).mono fun e u1 w' ⟨h1, H', h2, h3, h4⟩ => ⟨h1, H', h2, h3, hk _ _ h4⟩
theorem DCall.drop {P : Program} {f : FuncId} {args : List AV} {H H' : Heap} {u : FrameMode} {K : FrameMode → Heap → Prop} (hl : Heap.le H' H) (h : DCall P f args H' u K) : DCall P f args H u K := fun us w hv hh =>
  (h us w (hv.evol (Evol.drop w hl)) (hh.drop hl)).mono fun e u1 w' ⟨h1, H2, h2, h3, h4⟩ => ⟨h1, H2, (Evol.drop w hl).trans h2, h3, h4⟩

theorem rel_args {fr : Fr} {N : Nat} {args : List AV} {us : List Value} {H : Heap} {w : World} (hn : args.length ≤ N) (hv : VRs w H.dom args us) (hh : HeapR w H) (hb : fr = ⟨none, w.heap.size, []⟩) :
    Rel fr N (Env.args args) H { tmps := us.toArray ++ Array.replicate (N - us.toArray.size) undef, defers := [] } w := by
  subst hb
  refine ⟨by simp [hv.1]; omega, fun t => ?_, hh, Nat.le_refl _, ⟨fun d hd => by simp at hd, [], rfl, fun d hd => by simp at hd, .nil⟩, (fun l hl => by cases hl), fun _ => rfl⟩
  simp only [Env.args, Array.getD_eq_getD_getElem?, List.getD_eq_getElem?_getD, Array.getElem?_append, List.size_toArray, List.getElem?_toArray]
  by_cases ht : t < us.length
  · rw [if_pos ht]
    have ht' : t < args.length := by rw [← hv.1]; exact ht
    rw [List.getElem?_eq_getElem ht, List.getElem?_eq_getElem ht']
    exact hv.2 t _ _ (List.getElem?_eq_getElem ht') (List.getElem?_eq_getElem ht)
  · rw [if_neg ht, List.getElem?_eq_none (l := args) (by rw [← hv.1]; omega)]
    have : (Array.replicate (N - us.length) undef)[t - us.length]?.getD undef = undef := by
      rw [Array.getElem?_replicate]; split <;> rfl
    rw [this]
    exact .lit _

/-- what recover finds, and in which mode it leaves the frame -/
def recOf : FrameMode → Value × FrameMode
  | .panicking ({ v, recovered := false, goexit := false } :: older) => (v, .panicking ({ v, recovered := true } :: older))
  | m => (.nilIface, m)
theorem recoverD_recOf (c : Frame) (cs : List Frame) : recoverD (c :: cs) = some ((recOf c.mode).1, { c with mode := (recOf c.mode).2 } :: cs) ∨ (recoverD (c :: cs) = none ∧ (recOf c.mode).1 = .nilIface ∧ (recOf c.mode).2 = c.mode) := by
  cases hm : c.mode with
  | run => right; exact ⟨by simp [recoverD, hm], rfl, rfl⟩
  | returning => right; exact ⟨by simp [recoverD, hm], rfl, rfl⟩
  | panicking chain =>
    cases chain with
    | nil => right; exact ⟨by simp [recoverD, hm], rfl, rfl⟩
    | cons p older =>
      obtain ⟨v, r, g⟩ := p
      cases r <;> cases g
      · left; simp [recoverD, hm, recOf]
      all_goals (right; exact ⟨by simp [recoverD, hm], rfl, rfl⟩)

theorem DCall.body {P : Program} {f : FuncId} {fn : Func} {c : Code} {args : List AV} {H : Heap} {u : FrameMode} {K : FrameMode → Heap → Prop} {id : Nat} {o : Oper} {d : Tmp} {ts : Array TypeId} (hf : P.funcs[f]? = some fn) (hb : fn.body = some (.seq (.region id #[o] false) c)) (ho : o.op = .call { callee := .builtin .recover, args := #[], argTypes := ts }) (hg : o.guard = none) (hd : o.dst = some d)
    (hdn : Nat.blt d fn.ntmps = true) (hn : Nat.ble args.length fn.ntmps = true) (hr : fn.results.toList = []) (hq : quietN fn.ntmps = true)
    (h : WpC P fn.ntmps c ((Env.args args).put (some d) (.lit (recOf u).1)) H (fun e _ H' => (e = .normal ∨ e = .ret) ∧ K (recOf u).2 H')) : DCall P f args H u K := by
  intro us w hv hh
  refine callsDIn_of_wpSIn hf hb trivial fun c₀ cs hu => ?_
  refine wpSIn_seq (wpSIn_region ?_)
  have hrel := rel_args (N := fn.ntmps) (Nat.le_of_ble_eq_true hn) hv hh rfl
  have hrun : ∀ a : Act, (execOp a.eval o).run P w = .ok .recover w := fun a => by
    unfold execOp; rw [ho]
    simp [resolve, go_sem]
  have hrange : List.range (#[o] : Array Oper).size = [0] := rfl
  have hfin : ∀ (v : Value) (cs' : List Frame), v = (recOf u).1 → cs' = { c₀ with mode := (recOf u).2 } :: cs →
      c.wpSIn (fen none) 0 P (bodyPostS P fn c₀ cs fun e u1 w' => (∃ v, e = .returned v) ∧ ∃ H', Evol H w H' w' ∧ HeapR w' H' ∧ K u1 H') (({ tmps := us.toArray ++ Array.replicate (fn.ntmps - us.toArray.size) undef, defers := [] } : Act).put o.dst v) cs' w := by
    rintro v cs' rfl rfl
    rw [hd]
    have hrel2 := hrel.put (.refl H w) hh (d := some d) (by simpa using hdn) (.lit (recOf u).1)
    refine wpSIn_of_wpIn rfl (wpIn_mono (h ⟨none, w.heap.size, []⟩ 0 _ w hrel2) ?_)
    rintro e a' w' ⟨env', H', ev, r, hex, hk⟩
    have hres : ∃ u, (results fn a'.tmps).run P w' = .ok u w' := by
      obtain ⟨u, h1, _⟩ := results_run (P := P) (fn := fn) (vs := []) r (by rw [hr]; exact .nil)
      exact ⟨u, h1⟩
    obtain ⟨u1, hu1⟩ := hres
    rcases hex with rfl | rfl
    · exact ⟨r.quiet hq, _, rfl, u1, hu1, ⟨_, rfl⟩, H', ev, r.heap, hk⟩
    · exact ⟨r.quiet hq, _, rfl, u1, hu1, ⟨_, rfl⟩, H', ev, r.heap, hk⟩
  rw [hrange]
  unfold wpOpsSIn
  have hw : ∀ t, Region.wanted o (yielded #[o] t) = true := fun t => by unfold Region.wanted; rw [hg]
  simp only [List.getElem?_toArray, List.getElem?_cons_zero, hw, if_true, hrun]
  refine ⟨fun _ _ => trivial, ?_⟩
  rcases recoverD_recOf c₀ cs with h1 | ⟨h1, h2, h3⟩
  · rw [h1, hu]
    exact hfin _ _ rfl rfl
  · rw [h1]
    rw [hu] at h2 h3
    refine hfin _ _ h2.symm ?_
    rw [h3]
    cases c₀
    simp only at hu
    subst hu
    rfl

/-- what stands when the code behind the deferring ends -/
def DQ (P : Program) (fn : Func) (g : FuncId) (dargs : List AV) (K : AV → Heap → Prop) : QC
  | .normal, env, H | .ret, env, H => DCall P g dargs H .returning fun u1 H2 => settle u1 = .returning ∧ ∃ vs, ResV P env H2 fn.results.toList vs ∧ K (resOf vs) H2
  | .panic ch, env, H => DCall P g dargs H (.panicking ch) fun u1 H2 => settle u1 = .returning ∧ ∃ vs, ResV P env H2 fn.results.toList vs ∧ K (resOf vs) H2
  | _, _, _ => False

theorem TCall.bodyD {P : Program} {f g : FuncId} {fn : Func} {A rest : Code} {args : List AV} {H : Heap} {K : AV → Heap → Prop} {id : Nat} {om od : Oper} {t5 t2 t3 : Tmp} (hf : P.funcs[f]? = some fn) (hb : fn.body = some (.seq A (.seq (.region id #[om, od] false) rest)))
    (hm : om.op = .makeFunc (.func g) #[] #[.tmp t2, .tmp t3]) (hmg : om.guard = none) (hmd : om.dst = some t5) (hod : od.op = .defer { callee := .value (.tmp t5), args := #[], argTypes := #[] }) (hog : od.guard = none) (hodd : od.dst = none)
    (h5 : Nat.blt t5 fn.ntmps = true) (he : enterable P g = true) (hn : Nat.ble args.length fn.ntmps = true) (hq : quietN fn.ntmps = true)
    (h : WpC P fn.ntmps A (Env.args args) H (fun e env1 H1 => e = .normal ∧ ∃ v2 v3, env1 t2 = .lit v2 ∧ env1 t3 = .lit v3 ∧ WpC P fn.ntmps rest (env1.put (some t5) (.clo (.func g) [] [.lit v2, .lit v3])) H1 (DQ P fn g [.lit v2, .lit v3] K))) : TCall P f args H K noE := by
  intro us w hv hh
  refine (callsIn_wide (n := 0)).1 (callsIn_of_wp_marks hf hb trivial ?_)
  have hrel := rel_args (N := fn.ntmps) (Nat.le_of_ble_eq_true hn) hv hh rfl
  refine wpIn_seq (wpIn_mono (h ⟨none, w.heap.size, []⟩ 0 _ w hrel) ?_)
  rintro e a1 w1 ⟨env1, H1, ev1, r1, rfl, v2, v3, e2, e3, hrest⟩
  show (Code.seq _ rest).wpIn _ _ _ _ _ _
  refine wpIn_seq (wpIn_region_lit ?_)
  have q2 := r1.vals t2
  have q3 := r1.vals t3
  rw [e2] at q2
  rw [e3] at q3
  have q2 := q2.lit_inv
  have q3 := q3.lit_inv
  have hd1 := r1.quiet hq
  have hcl : VR w1 H1.dom (.clo (.func g) [] [.lit v2, .lit v3]) (.func (.func g) #[] #[v2, v3]) :=
    .clo [] [v2, v3] rfl (fun k x u hx => by simp at hx) rfl (VRs.cons (.lit v2) (VRs.cons (.lit v3) .nil)).2
  have r2 := r1.put (.refl H1 w1) r1.heap (d := some t5) (by simpa using h5) hcl
  have hwm : Region.wanted om (yielded [om, od].toArray a1.tmps) = true := by unfold Region.wanted; rw [hmg]
  unfold wpListIn
  rw [if_pos hwm]
  refine ⟨fun _ _ => trivial, ?_⟩
  have hrun1 : (om.semAt (none : Option Nat) a1.eval).run P w1 = .ok (.value (.func (.func g) #[] #[v2, v3])) w1 := by
    rw [sem_noDefer (by simp [noDefer, hm])]
    unfold execOp; rw [hm]
    have k2 : a1.eval (.tmp t2) = v2 := q2
    have k3 : a1.eval (.tmp t3) = v3 := q3
    simp only [List.map_toArray, List.map_cons, List.map_nil, k2, k3]
    rfl
  rw [show Fence.wide.round = none from rfl, hrun1]
  show wpListIn _ _ _ _ _ _ _ _
  rw [hmd]
  generalize ha2 : a1.put (some t5) (.func (.func g) #[] #[v2, v3]) = a2 at r2 ⊢
  have hd2 : a2.defers = [] := by rw [← ha2]; exact hd1
  have hwd : Region.wanted od (yielded [om, od].toArray a2.tmps) = true := by unfold Region.wanted; rw [hog]
  have h5v : a2.eval (.tmp t5) = .func (.func g) #[] #[v2, v3] := by
    have := r2.vals t5
    rw [show (env1.put (some t5) (.clo (.func g) [] [.lit v2, .lit v3])) t5 = .clo (.func g) [] [.lit v2, .lit v3] by simp [Env.put]] at this
    obtain ⟨us1, vs1, k1, k2, k3⟩ := this.clo_inv
    obtain rfl := k2.nil_inv
    obtain ⟨x1, l1, rfl, y1, k3⟩ := k3.cons_inv
    obtain ⟨x2, l2, rfl, y2, k3⟩ := k3.cons_inv
    obtain rfl := k3.nil_inv
    obtain rfl := y1.lit_inv
    obtain rfl := y2.lit_inv
    exact k1
  unfold wpListIn
  rw [if_pos hwd]
  refine ⟨fun _ _ => trivial, ?_⟩
  have hrun2 : (od.semAt (none : Option Nat) a2.eval).run P w1 = .ok (.defer { target := .fn (.func g) #[v2, v3], args := #[] }) w1 := by
    rw [Oper.semAt_none]
    unfold execOp; rw [hod]
    simp only [resolve, h5v, Deferred.ofValue, Sem.run_bind, Sem.run_pure, Result.andThen_ok, List.map_toArray, List.map_nil]
    rfl
  rw [show Fence.wide.round = none from rfl, hrun2]
  show wpListIn _ _ _ _ _ _ _ _
  rw [hodd]
  show Code.wpIn _ _ _ _ _ _ _
  have r3 : Rel ⟨none, w.heap.size, [{ target := .fn (.func g) #[v2, v3], args := #[] }]⟩ fn.ntmps (env1.put (some t5) (.clo (.func g) [] [.lit v2, .lit v3])) H1 { a2 with defers := { target := .fn (.func g) #[v2, v3], args := #[] } :: a2.defers } w1 := by
    refine ⟨r2.size, r2.vals, r2.heap, r2.base, ⟨fun d hd D => ?_, [], ?_, fun d hd => (by simp at hd), .nil⟩, r2.round, fun _ => ?_⟩
    · simp only [List.mem_singleton] at hd; subst hd; simp
    · rw [hd2]; rfl
    · rw [hd2]
  refine wpIn_mono (hrest _ 0 _ w1 r3) ?_
  rintro e a3 w3 ⟨env3, H3, ev3, r4, q⟩
  have hd3 := r4.quiet hq
  have inv : ∀ w2, (invoke (.fn (.func g) #[v2, v3]) #[]).run P w2 = .ok (.enter g #[v2, v3]) w2 := fun w2 => by
    simp [invoke, go_sem, enterable.run he]
  have fin : ∀ u, u ≠ FrameMode.run → DCall P g [.lit v2, .lit v3] H3 u (fun u1 H2 => settle u1 = .returning ∧ ∃ vs, ResV P env3 H2 fn.results.toList vs ∧ K (resOf vs) H2) →
      LeavesInM Fence.wide 0 P fn a3.tmps (fun e w' => ∃ H', Evol H w H' w' ∧ HeapR w' H' ∧ (match e with | .returned u => ∃ v, VR w' H'.dom v u ∧ K v H' | .panicked ch => noE ch H' | .outgrown => False)) a3.defers u w3 := by
    intro u hu hc
    rw [hd3]
    refine ⟨hu, .inr ⟨fun hh => by simp [Fence.wide] at hh, .func g, #[v2, v3], g, #[v2, v3], rfl, inv w3, fun _ _ => trivial, ?_⟩⟩
    refine (hc [v2, v3] w3 (VRs.cons (.lit v2) (VRs.cons (.lit v3) .nil)) r4.heap).mono ?_
    rintro e u1 w4 ⟨⟨v, rfl⟩, H4, ev4, hh4, hs, vs, hrv, hk⟩
    show LeavesInM _ _ _ _ _ _ [] (settle u1) w4
    rw [hs]
    have r5 := r4.evol ev4 hh4
    obtain ⟨uu, k1, k2⟩ := results_run (P := P) r5 hrv
    exact ⟨uu, k1, H4, ev1.trans (ev3.trans ev4), hh4, _, k2, hk⟩
  cases e with
  | normal => exact fin .returning (by simp) q
  | ret => exact fin .returning (by simp) q
  | panic ch => exact fin (.panicking ch) (by simp) q
  | exit id => exact q.elim
  | goto l => exact q.elim
  | outgrown => exact q.elim
end Go.Vc
