/-
  Part of the proof of If.
-/
import Derived.Test.YtgmpeddopfnioaaGreatDoorQiVdx
import Derived.Test.YtgmpeddopfnioaaGreatDoorQiShx

set_option linter.unusedVariables false
set_option linter.unusedSimpArgs false
namespace Go.Vc
open Go
theorem vT (H : Heap) (g : Nat) (a b : AObj) : (H.set g a).set g b = H.set g b := by funext k; simp only [Heap.set]; split <;> rfl
theorem Heap.del_set (H : Heap) {g : Nat} (h : H g = none) (a : AObj) : (H.set g a).del g = H := by
  funext k; simp only [Heap.set, Heap.del]; split
  · rename_i e; rw [e, h]
  · rfl
theorem vS {H : Heap} {g : Nat} (hg : H g = none) (o : AObj) : H.le (H.set g o) := Heap.le_set (uD _) hg o
inductive Own (H0 : Heap) (t : TypeId) (size : Nat) (es : List (List AV)) : Nat → Option (Nat × Nat) → Heap → Prop
 | nil (h : es = []) : Own H0 t size es 0 none H0
 | row {n : Nat} (g c : Nat) (h : H0 g = none) (hn : n = es.length) : Own H0 t size es n (some (g, c)) (H0.set g (.row t size es c))
section own
variable {H0 H : Heap} {t size n : Nat} {es es' : List (List AV)} {p : Option (Nat × Nat)}
theorem Up.nil (H : Heap) : Up H (.own 0 none) H (.rows size []) := ⟨uD _, fun w x hh hx => by obtain ⟨_, rfl⟩ := hx.nil_inv; exact .rows0⟩
theorem Own.up (h : Own H0 t size es n p H) : Up H (.own n p) H0 (.rows size es) := by
 cases h with
 | nil h => subst h; exact Up.nil _
 | row g c h hn => exact Up.rows (vS h _) (uO _ _ _) h hn
theorem Own.le (h : Own H0 t size es n p H) : H0.le H := h.up.1
theorem Own.len (h : Own H0 t size es n p H) : n = es.length := by
 cases h with
 | nil h => subst h; rfl
 | row g c h hn => exact hn
theorem Own.src (h : Own H0 t size es n p H) : Src H size (.own n p) es := by
 cases h with
 | nil h => subst h; exact .nil
 | row g c h hn =>
  subst hn
  have := Src.buf (H := H0.set g (.row t size es c)) (size := size) (t := t) (g := g) (n := es.length) (cap := c) (uO _ _ _) (Nat.le_refl _); rwa [List.take_length] at this
theorem Own.eq (h : Own H0 t size es n p H) (e : es = es') : Own H0 t size es' n p H := e ▸ h
end own
section app
variable {P : Program} {o : Oper} {env : Env} {H : Heap} {K : AV → Heap → Prop} {E : List PanicEntry → Heap → Prop}
theorem WpO.push {x y : Operand} {t e : TypeId} {size bytes n : Nat} {es0 : List (List AV)} {p : Option (Nat × Nat)} {src : AV} {es : List (List AV)} {H0 : Heap} (ho : o.op = .call { callee := .builtin .append, args := #[x, y], argTypes := #[t, t] }) (ek : ElemOk P t e size bytes)
  (hx : env.ev x = .own n p) (own : Own H0 e size es0 n p H) (hy : env.ev y = src) (hs : Src H size src es) (h1 : ∀ e ∈ es, e.all AV.one = true) (hne : es ≠ []) (h63 : es0.length + es.length ≤ 140737488355328) (hb : (es0.length + es.length) * bytes ≤ 140737488355328)
  (hk : ∀ p' H', Own H0 e size (es0 ++ es) (n + es.length) p' H' → K (.own (n + es.length) p') H') : WpO P o env H K E := by
 cases own with
 | nil h =>
  subst h
  refine WpO.append_nil ho ek hx hy hs h1 hne (by simpa using h63) (by simpa using hb) fun g c hg hc => ?_
  have := hk (some (g, c)) _ (.row (n := 0 + es.length) g c hg (by simp))
  rwa [Nat.zero_add] at this
 | row g c hg hn =>
  subst hn
  refine WpO.append ho ek hx (uO _ _ _) (Nat.le_refl _) hy hs h1 h63 hb fun g' c' hg' hc' => ?_
  rw [List.take_length, Heap.del_set _ hg]
  exact hk _ _ (Own.row (H0 := H0) (t := e) (size := size) (es := es0 ++ es) g' c' (by
   rcases hg' with rfl | h
   ·exact hg
   ·exact Heap.le_none (vS hg _) h) (by simp))
theorem Exact.call {f : FuncId} {args : Array Operand} {ts : Array TypeId} {xs : List AV} {v : AV} (ho : o.op = .call { callee := .value (.func f), args := args, argTypes := ts }) (he : enterable P f = true) (hx : forceL (args.toList.map env.ev) some = some xs) (h : TCall P f xs H (fun u H' => u = v ∧ H' = H) noE) : Exact P o env H v := WpO.call ho he hx h
theorem vN {x : Operand} {f : FuncId} {first cap : List AV} {args : Array Operand} {ts : Array TypeId} {xs : List AV} {v : AV} (ho : o.op = .call { callee := .value x, args := args, argTypes := ts }) (hf : env.ev x = .clo (.func f) first cap) (he : enterable P f = true) (hx : forceL (first ++ args.toList.map env.ev ++ cap) some = some xs) (h : TCall P f xs H (fun u H' => u = v ∧ H' = H) noE) : Exact P o env H v := WpO.call_clo ho hf he hx h
theorem WpO.put {t ty : TypeId} {x y : Operand} {g off : Nat} {cs cs' : List AV} {v : AV} (ho : o.op = .store t x y) (hx : env.ev x = .lit (.pointer (some ⟨g, off, none⟩))) (hg : H g = some (.cells ty cs)) (hy : forceA (env.ev y) some = some v)
    (h1 : (cellsA v).all AV.one = true) (hs : P.cellsOf t = (cellsA v).length) (hz : Nat.ble 1 (cellsA v).length = true) (hfit : Nat.ble (off + (cellsA v).length) cs.length = true) (hc : forceL (spliceA cs off (cellsA v)) some = some cs') (hk : K (.lit undef) (H.set g (.cells ty cs'))) : WpO P o env H K E :=
  WpO.store ho hx hg (by rw [forceA_eq] at hy; injection hy) h1 hs (by have := Nat.le_of_ble_eq_true hz; omega) (Nat.le_of_ble_eq_true hfit) hc hk
end app
section at_
variable {P : Program} {N : Nat} {env : Env} {H H' : Heap} {Q : QC} {ops : Array Oper} {Inv : Heap → Prop}
theorem Env.put_at {d : Nat} {v : AV} (h : env d = v) : env.put (some d) v = env := by
  funext t; simp only [Env.put]; split
  · rename_i e; rw [e, h]
  · rfl
theorem uN (d : Nat) {v : AV} {l : List Oper} (h : env d = v) (k : WpOps P N ops Q l (env.put (some d) v) H) : WpOps P N ops Q l env H := by rwa [Env.put_at h] at k
theorem WpPi.at (d : Nat) {v : AV} {cls : Nat → Cls} {l : List Nat} (h : env d = v) (k : WpPi P N ops Inv Q cls l (env.put (some d) v) H) : WpPi P N ops Inv Q cls l env H := by rwa [Env.put_at h] at k
theorem WpC.at (d : Nat) {v : AV} {c : Code} (h : env d = v) (k : WpC P N c (env.put (some d) v) H Q) : WpC P N c env H Q := by rwa [Env.put_at h] at k
theorem WpOps.heap {l : List Oper} (h : H = H') (k : WpOps P N ops Q l env H') : WpOps P N ops Q l env H := h ▸ k
theorem WpPi.heap {cls : Nat → Cls} {l : List Nat} (h : H = H') (k : WpPi P N ops Inv Q cls l env H') : WpPi P N ops Inv Q cls l env H := h ▸ k
theorem WpC.heap {c : Code} (h : H = H') (k : WpC P N c env H' Q) : WpC P N c env H Q := h ▸ k
end at_
section nilcmp
variable {P : Program} {o : Oper} {env : Env} {H : Heap}
end nilcmp
section cut
variable {P : Program} {o : Oper} {env : Env} {H : Heap}
theorem Exact.slice_buf {t e ty : TypeId} {x y : Operand} {k0 : IntKind} {g n c k size : Nat} {es : List (List AV)} (ho : o.op = .slice t x none (some y) none) (hx : env.ev x = .buf g n c) (hy : env.ev y = .lit (.int k0 (.ofNat k))) (hg : H g = some (.row ty size es c)) (hn : n ≤ es.length) (hk : k ≤ n)
  (ht : elemT P t = some e) (hsz : P.cellsOf e = size) (hz : size ≠ 0) : Exact P o env H (.buf g k c) := by
 apply vB (by simp [noDefer, ho])
 intro a w ⟨hr, hh⟩
 rw [ho] at hr
 have h0 := hr x (by simp [Op.operands])
 have h1 := hr y (by simp [Op.operands])
 rw [hx] at h0; rw [hy] at h1
 have e0 := h0.buf_inv
 have e1 := h1.lit_inv
 obtain ⟨cur, _, _, hc, _⟩ := hh g _ hg
 have hu := underlying_of_elemT ht
 have hb := sliceBounds_run (P := P) (w := w) (isS := true) (len := n) (cap := c) (lo := none) (hi := some k) (mx := none) (ul := none) (uh := some (.int k0 (Int.ofNat k))) (um := none) (.inl ⟨rfl, rfl⟩) (.inr ⟨k, k0, rfl, rfl⟩) (.inl ⟨rfl, rfl⟩) (by omega) hk trivial
 have hso := cellsOf_run (w := w) (P := P) (t := e) hsz hz
 refine ⟨.slice (some ⟨g, 0, none⟩) k c, ?_, .buf _ _ _⟩
 unfold execOp
 rw [ho]
 simp only [Option.map_none, Option.map_some, e0, e1, Instr.sliceAt, Instr.slice, Sem.run_bind, run_underlying hu, Result.andThen_ok, hb, hso, Sem.run_pure]
 simp only [Option.getD_none, loOf, hiOf, Nat.zero_mul, Nat.sub_zero]
 split
 ·rfl
 ·simp [Addr.add]
end cut
section maps
variable {P : Program} {kt : TypeId}
theorem mput_cons {k : Value} {v : AV} {e : Value × AV} {es : List (Value × AV)} : mput (e :: es) k v = if keyEq k e.1 then (k, v) :: es else e :: mput es k v := by
  unfold mput
  rw [show mfind k (e :: es) = if keyEq k e.1 then some (0, e.2) else (mfind k es).map fun p => (p.1 + 1, p.2) from rfl]
  cases hk : keyEq k e.1 with
  | true => rfl
  | false => simp only [Bool.false_eq_true, if_false]; cases mfind k es <;> rfl
end maps
end Go.Vc
set_option linter.unusedVariables false
set_option linter.unusedSimpArgs false
namespace Go.Vc
open Go
def TYield (P : Program) (l : Nat) (args : List AV) (H : Heap) (K : AV → Heap → Prop) : Prop :=
 ∀ us w, VRs w H.dom args us → HeapR w H → ∃ fn tmps assign body, (Instr.yield l us.toArray).run P w = .ok (.round l fn tmps assign body) w ∧ ∀ n, RoundIn Fence.wide n P l fn tmps assign body w fun e w' =>
  ∃ H', Evol H w H' w' ∧ HeapR w' H' ∧ (match e with
   | .returned u => ∃ v, VR w' H'.dom v u ∧ K v H'
   | _ => False)
abbrev tt : AV := .lit (.bool true)
abbrev ff : AV := .lit (.bool false)
def TSeq (P : Program) (gf : FuncId) (cap : List AV) (H0 : Heap) (seq : List (List AV)) : Prop :=
 ∀ (l : Nat) (J : Nat → Heap → Prop) (Jx : Heap → Prop), (∀ k H, J k H → H0.le H) →
  (∀ k args H, seq[k]? = some args → J k H → TYield P l args H (fun v H' => (v = tt ∧ J (k + 1) H') ∨ (v = ff ∧ Jx H'))) →
  ∀ H, J 0 H → TCall P gf (.clo (.yield l) [] [] :: cap) H (fun _ H' => J seq.length H' ∨ Jx H') noE
theorem round_fen {P : Program} {n l : Nat} {fn : FuncId} {tmps : Array Value} {assign body : Code} {w : World} {R : Ending → World → Prop} (r : Option Nat) (h : RoundIn Fence.wide n P l fn tmps assign body w R) : RoundIn (fen r) n P l fn tmps assign body w R := h
section
variable {P : Program} {o : Oper} {env : Env} {H : Heap} {K : AV → Heap → Prop} {E : List PanicEntry → Heap → Prop}
theorem WpO.call_yield {x : Operand} {l : Nat} {args : Array Operand} {ts : Array TypeId} {xs : List AV} (ho : o.op = .call { callee := .value x, args := args, argTypes := ts }) (hf : env.ev x = .clo (.yield l) [] []) (hx : forceL (args.toList.map env.ev) some = some xs) (h : TYield P l xs H K) : WpO P o env H K E := by
  rw [forceL_eq] at hx
  injection hx with hx; subst hx
  intro r n a w ⟨hr, hh⟩ K' Q' h1 h2
  rw [ho] at hr
  have e0 := hr x (by simp [Op.operands, Call.operands])
  rw [hf] at e0
  obtain ⟨us, vs, e1, g1, g2⟩ := e0.clo_inv
  obtain rfl := g1.nil_inv
  obtain rfl := g2.nil_inv
  obtain ⟨fn, tmps, assign, body, hy, hR⟩ := h (args.toList.map a.eval) w (evs_VRs fun y hy => hr y (by simp [Op.operands, Call.operands]; exact .inr (by simpa using hy))) hh
  have hrun : (execOp a.eval o).run P w = .ok (.round l fn tmps assign body) w := by
    unfold execOp
    rw [ho]
    simp only [resolve, e1, Deferred.ofValue, Sem.run_bind, Sem.run_pure, Result.andThen_ok, invoke]
    rw [← hy]
    congr 2
    apply Array.ext'; simp
  refine ⟨fun _ _ => trivial, ?_⟩
  rw [sem_noDefer (by simp [noDefer, ho]), hrun]
  refine ⟨fun hh => by simp [fen, Fence.wide] at hh, ?_⟩
  refine (round_fen r (hR (n - 1))).mono fun e w' ⟨H', e1, r1, r2⟩ => ?_
  cases e with
  | returned u => obtain ⟨v, r3, r4⟩ := r2; exact h1 v u H' w' e1 r1 r3 r4
  | panicked ch => exact r2.elim
  | outgrown => exact r2.elim
end
structure EvolX (l : Nat) (H : Heap) (w : World) (H' : Heap) (w' : World) : Prop where
 os : w'.os = w.os
 tape : w'.tape = w.tape
 output : w'.output = w.output
 size : w.heap.size ≤ w'.heap.size
 keep : ∀ g, g < w.heap.size → ¬ H.dom g → g ≠ l → w'.heap[g]? = w.heap[g]?
 dom : ∀ g, H'.dom g → H.dom g ∨ w.heap.size ≤ g
theorem EvolX.stays {l : Nat} {H H' : Heap} {w w' : World} (e : EvolX l H w H' w') (hl : NonCells w l) : Stays w H.dom w' H'.dom := ⟨e.size, fun g hg hn => by
  by_cases h : g = l
  · subst h; exact .inl hl
  · exact .inr ⟨e.keep g hg hn h, fun hd => by rcases e.dom g hd with h1 | h1; exact hn h1; omega⟩⟩
theorem Evol.x {H H' : Heap} {w w' : World} (e : Evol H w H' w') (l : Nat) : EvolX l H w H' w' := ⟨e.os, e.tape, e.output, e.size, fun g h1 h2 _ => e.keep g h1 h2, e.dom⟩
theorem EvolX.trans {l : Nat} {A B C : Heap} {a b c : World} (h : EvolX l A a B b) (k : EvolX l B b C c) : EvolX l A a C c where
  os := k.os.trans h.os
  tape := k.tape.trans h.tape
  output := k.output.trans h.output
  size := Nat.le_trans h.size k.size
  keep := fun g hg hn hl => (k.keep g (Nat.lt_of_lt_of_le hg h.size) (fun hd => by rcases h.dom g hd with h1 | h1; exact hn h1; omega) hl).trans (h.keep g hg hn hl)
  dom := fun g hg => by
    rcases k.dom g hg with h1 | h1
    · exact h.dom g h1
    · exact .inr (Nat.le_trans h.size h1)
theorem EvolX.put (l : Nat) (H : Heap) (w : World) (o : Obj) : EvolX l H w H (w.putObj l o) :=
 ⟨rfl, rfl, rfl, by simp, fun g _ _ h => World.putObj_heap_other h, fun g hd => .inl hd⟩
theorem HeapR.x {l : Nat} {H : Heap} {w w' : World} (h : HeapR w H) (e : EvolX l H w H w') (hl : NonCells w l) (hk : ∀ g o, H g = some o → w'.heap[g]? = w.heap[g]?) : HeapR w' H := fun g o hg =>
 (h g o hg).stays (e.stays hl) (hk g o hg)
theorem Rel.x {fr : Fr} {N l : Nat} {env : Env} {H H' : Heap} {a : Act} {w w' : World} (h : Rel fr N env H a w) (e : EvolX l H w H' w') (hl : NonCells w l) (hr : HeapR w' H') (hm : ∀ d ∈ a.defers, d.target ≠ .collected l) (ho : fr.round ≠ some l) : Rel fr N env H' a w' := by
  have hs := e.stays hl
  obtain ⟨mt, ms, me, m1, m2⟩ := h.marks
  refine ⟨h.size, fun t => (h.vals t).stays hs, hr, Nat.le_trans h.base e.size, ⟨mt, ms, me, fun d hd => ?_, m2⟩, fun l0 h0 => ?_, h.quiet⟩
  · obtain ⟨D, rfl, h2, h3, h4⟩ := m1 d hd
    have hne : D ≠ l := fun e => hm { target := .collected D, args := #[] } (by rw [me]; simp [hd]) (by rw [e])
    have hlt := (Array.getElem?_eq_some_iff.1 h3).1
    exact ⟨D, rfl, h2, (e.keep D hlt h4 hne).trans h3, fun hd => by rcases e.dom D hd with h1 | h1; exact h4 h1; omega⟩
  · obtain ⟨k1, rec, k2⟩ := h.round l0 h0
    have hne : l0 ≠ l := fun e => ho (by rw [h0, e])
    have hlt := (Array.getElem?_eq_some_iff.1 k2).1
    exact ⟨fun hd => by rcases e.dom l0 hd with h1 | h1; exact k1 h1; omega, rec, (e.keep l0 hlt k1 hne).trans k2⟩
def Env.putL (env : Env) : List Tmp → List AV → Env
 | p :: ps, v :: vs => Env.putL (env.put (some p) v) ps vs
 | _, _ => env
theorem putL_fold {w : World} {D : Nat → Prop} : ∀ (ps : List Tmp) (args : List AV) (us : List Value) (env : Env) (tmps : Array Value), VRs w D args us → (∀ p ∈ ps, p < tmps.size) → (∀ t, VR w D (env t) (tmps.getD t undef)) →
    ((ps.zip us).foldl (fun t (p, v) => t.setIfInBounds p v) tmps).size = tmps.size ∧ ∀ t, VR w D (env.putL ps args t) (((ps.zip us).foldl (fun t (p, v) => t.setIfInBounds p v) tmps).getD t undef)
  | [], args, us, env, tmps, _, _, h => by cases args <;> exact ⟨rfl, h⟩
  | p :: ps, [], us, env, tmps, hv, _, h => by obtain rfl := hv.nil_inv; exact ⟨rfl, h⟩
  | p :: ps, x :: args, us, env, tmps, hv, hp, h => by
    obtain ⟨u, us', rfl, h1, h2⟩ := hv.cons_inv
    have := putL_fold ps args us' (env.put (some p) x) (tmps.setIfInBounds p u) h2 (fun q hq => by simpa using hp q (by simp [hq])) (fun t => by
      by_cases ht : t = p
      · subst ht
        have hs : t < tmps.size := hp t (by simp)
        have : (tmps.setIfInBounds t u).getD t undef = u := by simp [Array.getD_eq_getD_getElem?, hs]
        rw [this]; simpa [Env.put] using h1
      · have : (tmps.setIfInBounds p u).getD t undef = tmps.getD t undef := by
          simp only [Array.getD_eq_getD_getElem?]
          rw [Array.getElem?_setIfInBounds_ne (fun e => ht e.symm)]
        rw [this]
        simpa [Env.put, ht] using h t)
    refine ⟨by simpa using this.1, this.2⟩
def rangeQ (I : Heap → Prop) (Q : QC) (env : Env) : QC
 | .normal, _, H => I H
 | .ret, _, H => Q .ret env H
 | .exit id, _, H => Q (.exit id) env H
 | .goto l, _, H => Q (.goto l) env H
 | _, _, _ => False
def stopQ (Q : QC) (env : Env) (c : Code) (H : Heap) : Prop := (c = .ret ∧ Q .ret env H) ∨ (∃ id, c = .exit id ∧ Q (.exit id) env H) ∨ ∃ l, c = .goto l ∧ Q (.goto l) env H
theorem dom_set {H : Heap} {l g : Nat} {o : AObj} (ho : o.ownd = true := by rfl) : (H.set l o).dom g ↔ g = l ∨ H.dom g := by
 constructor
 ·rintro ⟨x, hx, h1⟩
  by_cases h : g = l
  ·exact .inl h
  ·rw [uS _ _ h] at hx; exact .inr ⟨x, hx, h1⟩
 ·rintro (rfl | ⟨x, hx, h1⟩)
  ·exact ⟨o, uO _ _ _, ho⟩
  ·by_cases h : g = l
   ·subst h; exact ⟨o, uO _ _ _, ho⟩
   ·exact ⟨x, by rw [uS _ _ h]; exact hx, h1⟩
theorem HeapR.loop {w : World} {H : Heap} {l N : Nat} {env : Env} {rec : Loop} {tmps : Array Value} (h : HeapR w H) (hl : H l = none) (hb : w.heap[l]? = some (.loop { rec with tmps := tmps })) (hs : tmps.size = N) (hv : ∀ t, VR w H.dom (env t) (tmps.getD t undef)) : HeapR w (H.set l (.loop N env rec)) := by
  have st : Stays w H.dom w (H.set l (.loop N env rec)).dom := ⟨Nat.le_refl _, fun g hg hn => by
    by_cases e : g = l
    · subst e; exact .inl ⟨_, hb, rfl⟩
    · exact .inr ⟨rfl, fun hd => by rcases (dom_set).1 hd with h1 | h1; exact e h1; exact hn h1⟩⟩
  intro g o hg
  by_cases e : g = l
  · subst e
    rw [uO] at hg
    injection hg with hg; subst hg
    exact ⟨tmps, hb, hs, fun t => (hv t).stays st⟩
  · rw [uS _ _ e] at hg
    exact (h g o hg).stays st rfl
section range
variable {P : Program} {N : Nat} {env : Env} {H : Heap} {Q : QC}
theorem range_yield {ps : Array Tmp} {assign body : Code} {l fnid d : Nat} {I : Nat → Heap → Prop} {k : Nat} {args : List AV} {Hb : Heap} (hps : ∀ p ∈ ps.toList, Nat.blt p N = true) (hlen : args.length = ps.size)
    (round : ∀ H', I k H' → WpC P N assign (env.putL ps.toList args) H' (thenQ (fun env' H'' => WpC P N body env' H'' (rangeQ (I (k + 1)) Q env)) (fun _ _ _ => False)))
    (hl : Hb l = none) (hi : I k Hb) (rec : Loop) (hrec : rec = { state := .ready, pending := none, fn := fnid, tmps := #[], params := ps, assign := assign, body := body, defers := d }) :
    TYield P l args (Hb.set l (.loop N env rec)) (fun v H' => (v = tt ∧ ∃ Hb', I (k + 1) Hb' ∧ Hb' l = none ∧ H' = Hb'.set l (.loop N env rec)) ∨
      (v = ff ∧ ∃ Hb' c, stopQ Q env c Hb' ∧ Hb' l = none ∧ H' = Hb'.set l (.loop N env { rec with state := .done, pending := some c }))) := by
  intro us w hv hh
  obtain ⟨tmps, hb, hsz, hvals⟩ := hh l _ (uO _ _ _)
  have hle : Hb.le (Hb.set l (.loop N env rec)) := vS hl _
  have hvs : VRs w Hb.dom args us := hv.evol (Evol.drop w hle)
  have hhb : HeapR w Hb := hh.drop hle
  have hvb : ∀ t, VR w Hb.dom (env t) (tmps.getD t undef) := fun t => (hvals t).evol (Evol.drop w hle)
  have hnd : ¬ Hb.dom l := fun ⟨o, ho, _⟩ => by rw [hl] at ho; cases ho
  refine ⟨fnid, (ps.zip us.toArray).foldl (fun t (p, v) => t.setIfInBounds p v) tmps, assign, body, ?_, fun n => ?_⟩
  · have := run_yield (P := P) (args := us.toArray) hb (by rw [hrec]; simp [hvs.1, hlen])
    rw [hrec] at this
    exact this
  refine roundIn_of_wpIn trivial ?_
  -- the round's own frame
  have hfold := putL_fold (w := w) (D := Hb.dom) ps.toList args us env tmps hvs (fun p hp => by have h1 := hps p hp; rw [Nat.blt_eq] at h1; rw [hsz]; exact h1) hvb
  have hfe : (ps.zip us.toArray).foldl (fun t (p, v) => t.setIfInBounds p v) tmps = (ps.toList.zip us).foldl (fun t (p, v) => t.setIfInBounds p v) tmps := by
    rw [← Array.foldl_toList, Array.toList_zip]
  have r0 : Rel ⟨some l, 0, []⟩ N (env.putL ps.toList args) Hb { tmps := (ps.zip us.toArray).foldl (fun t (p, v) => t.setIfInBounds p v) tmps, defers := [] } w := by
    refine ⟨?_, fun t => ?_, hhb, Nat.zero_le _, ⟨fun d hd => by simp at hd, [], rfl, fun d hd => by simp at hd, .nil⟩, fun l0 h0 => ?_, fun _ => rfl⟩
    · show ((ps.zip us.toArray).foldl _ tmps).size = N
      rw [hfe, hfold.1, hsz]
    · show VR w Hb.dom _ (((ps.zip us.toArray).foldl _ tmps).getD t undef)
      rw [hfe]; exact hfold.2 t
    · injection h0 with h0; subst h0
      exact ⟨hnd, _, hb⟩
  refine wpIn_mono (round Hb hi ⟨some l, 0, []⟩ n _ w r0) ?_
  rintro e a1 w1 ⟨env1, H1, ev1, r1, q1⟩
  cases e with
  | normal =>
    obtain ⟨k1, hd1⟩ := ev1.hk l (Array.getElem?_eq_some_iff.1 hb).1 hnd
    have hb1 := k1.trans hb
    have hst : ({ rec with tmps := tmps } : Loop).state = .ready := by rw [hrec]
    refine ⟨_, run_beginRound hb1 hst, ?_⟩
    have hl1lt := (Array.getElem?_eq_some_iff.1 hb1).1
    have nc1 : NonCells w1 l := ⟨_, hb1, rfl⟩
    have hk1 : ∀ o g x, H1 g = some x → (w1.putObj l o).heap[g]? = w1.heap[g]? := fun o g x hg => World.putObj_heap_other (fun e => by subst e; rw [r1.heap.absent hd1 nc1] at hg; cases hg)
    have r2 : Rel ⟨some l, 0, []⟩ N env1 H1 a1 (w1.putObj l (.loop { { rec with tmps := tmps } with state := .busy })) := by
      obtain ⟨mt, ms, me, m1, m2⟩ := r1.marks
      refine ⟨r1.size, fun t => (r1.vals t).stays ((EvolX.put l H1 w1 _).stays nc1), r1.heap.x (EvolX.put l H1 w1 _) nc1 (hk1 _), Nat.zero_le _, ⟨mt, ms, me, fun d hd => ?_, m2⟩, fun l0 h0 => ?_, r1.quiet⟩
      · obtain ⟨D, rfl, h2, h3, h4⟩ := m1 d hd
        have hne : D ≠ l := fun e => by subst e; rw [hb1] at h3; cases h3
        exact ⟨D, rfl, h2, (World.putObj_heap_other hne).trans h3, h4⟩
      · injection h0 with h0; subst h0
        exact ⟨hd1, _, World.putObj_heap_same hl1lt⟩
    refine wpIn_mono (q1 ⟨some l, 0, []⟩ n a1 _ r2) ?_
    rintro e a3 w3 ⟨env3, H3, ev3, r3, q3⟩
    have hb2 : (w1.putObj l (.loop { { rec with tmps := tmps } with state := .busy })).heap[l]? = some (.loop { { rec with tmps := tmps } with state := .busy }) := World.putObj_heap_same hl1lt
    obtain ⟨k3, hd3⟩ := ev3.hk l (Array.getElem?_eq_some_iff.1 hb2).1 hd1
    have hb3 := k3.trans hb2
    have hl3lt := (Array.getElem?_eq_some_iff.1 hb3).1
    have nc3 : NonCells w3 l := ⟨_, hb3, rfl⟩
    have hl3 : H3 l = none := r3.heap.absent hd3 nc3
    -- whatever the record becomes
    have fin : ∀ rec' : Loop, ∃ H', H' = H3.set l (.loop N env rec') ∧ Evol (Hb.set l (.loop N env rec)) w H' (w3.putObj l (.loop { rec' with tmps := tmps })) ∧ HeapR (w3.putObj l (.loop { rec' with tmps := tmps })) H' := by
      intro rec'
      have evx : EvolX l Hb w H3 (w3.putObj l (.loop { rec' with tmps := tmps })) :=
        (ev1.x l).trans ((EvolX.put l H1 w1 _).trans ((ev3.x l).trans (EvolX.put l H3 w3 _)))
      have ev : Evol (Hb.set l (.loop N env rec)) w (H3.set l (.loop N env rec')) (w3.putObj l (.loop { rec' with tmps := tmps })) := by
        refine ⟨evx.os, evx.tape, evx.output, evx.size, fun g hg hn => ?_, fun g hd => ?_⟩
        · exact evx.keep g hg (fun h => hn ((dom_set).2 (.inr h))) (fun e => hn ((dom_set).2 (.inl e)))
        · rcases (dom_set).1 hd with h | h
          · exact .inl ((dom_set).2 (.inl h))
          · exact (evx.dom g h).imp (fun h => (dom_set).2 (.inr h)) id
      refine ⟨_, rfl, ev, ?_⟩
      have st3 : Stays w3 H3.dom (w3.putObj l (.loop { rec' with tmps := tmps })) (H3.set l (.loop N env rec')).dom := ⟨by simp, fun g hg hn => by
        by_cases e : g = l
        · subst e; exact .inl nc3
        · exact .inr ⟨World.putObj_heap_other e, fun hd => by rcases (dom_set).1 hd with h1 | h1; exact e h1; exact hn h1⟩⟩
      intro g o hg
      by_cases e : g = l
      · subst e
        rw [uO] at hg
        injection hg with hg; subst hg
        exact ⟨tmps, World.putObj_heap_same hl3lt, hsz, fun t => (hvals t).evol ev⟩
      · rw [uS _ _ e] at hg
        exact (r3.heap g o hg).stays st3 (World.putObj_heap_other e)
    cases e with
    | normal =>
      obtain ⟨H', e1, ev, hr⟩ := fin rec
      have := run_endRound (P := P) none hb3
      have he : ({ { { rec with tmps := tmps } with state := .busy } with state := if (none : Option Code).isNone then .ready else .done, pending := none } : Loop) = { rec with tmps := tmps } := by rw [hrec]; rfl
      rw [he] at this
      exact ⟨_, _, this, H', ev, hr, tt, .lit _, .inl ⟨rfl, H3, q3, hl3, e1⟩⟩
    | ret =>
      obtain ⟨H', e1, ev, hr⟩ := fin { rec with state := .done, pending := some .ret }
      exact ⟨_, _, run_endRound (some .ret) hb3, H', ev, hr, ff, .lit _, .inr ⟨rfl, H3, .ret, .inl ⟨rfl, q3⟩, hl3, e1⟩⟩
    | exit id =>
      obtain ⟨H', e1, ev, hr⟩ := fin { rec with state := .done, pending := some (.exit id) }
      exact ⟨_, _, run_endRound (some (.exit id)) hb3, H', ev, hr, ff, .lit _, .inr ⟨rfl, H3, .exit id, .inr (.inl ⟨id, rfl, q3⟩), hl3, e1⟩⟩
    | goto t =>
      obtain ⟨H', e1, ev, hr⟩ := fin { rec with state := .done, pending := some (.goto t) }
      exact ⟨_, _, run_endRound (some (.goto t)) hb3, H', ev, hr, ff, .lit _, .inr ⟨rfl, H3, .goto t, .inr (.inr ⟨t, rfl, q3⟩), hl3, e1⟩⟩
    | panic ch => exact q3.elim
    | outgrown => exact q3.elim
  | exit id => exact q1.elim
  | goto l => exact q1.elim
  | ret => exact q1.elim
  | panic ch => exact q1.elim
  | outgrown => exact q1.elim
theorem range_core {ps : Array Tmp} {assign body : Code} {l fnid d : Nat} {gf : FuncId} {cap : List AV} {lb : List Value} {seq : List (List AV)} {H0 : Heap} {I : Nat → Heap → Prop} (hps : ∀ p ∈ ps.toList, Nat.blt p N = true)
    (hseq : TSeq P gf cap H0 seq) (hlen : ∀ args ∈ seq, args.length = ps.size) (hI0 : ∀ k H, I k H → H0.le H) (h0 : I 0 H)
    (round : ∀ k args H', seq[k]? = some args → I k H' → WpC P N assign (env.putL ps.toList args) H' (thenQ (fun env' H'' => WpC P N body env' H'' (rangeQ (I (k + 1)) Q env)) (fun _ _ _ => False)))
    (done : ∀ H', I seq.length H' → Q .normal env H')
    {fr : Fr} {a : Act} {w w1 : World} {n : Nat} (hw : w.heap.size ≤ l) (hl : H l = none) (hnew : Evol H w H w1) (rec : Loop) (hrec : rec = { state := .ready, pending := none, fn := fnid, tmps := #[], params := ps, assign := assign, body := body, defers := d })
    (hb : w1.heap[l]? = some (.loop { rec with tmps := a.tmps })) (r : Rel fr N env H a w1) (hm : ∀ d ∈ a.defers, d.target ≠ .collected l) (ho : fr.round ≠ some l) (hcap : VRs w1 H.dom cap lb) :
    CallsIn (fen fr.round) (n - 1) P gf (#[.func (.yield l) #[] #[]] ++ lb.toArray) w1 (rangePost (fen fr.round) n P l (Post fr N H w Q) a) := by
  have hh1 : HeapR w1 (H.set l (.loop N env rec)) := r.heap.loop hl hb r.size r.vals
  have nc1 : NonCells w1 l := ⟨_, hb, rfl⟩
  have st1 : Stays w1 H.dom w1 (H.set l (.loop N env rec)).dom := ⟨Nat.le_refl _, fun g hg hn => by
    by_cases e : g = l
    · subst e; exact .inl nc1
    · exact .inr ⟨rfl, fun hd => by rcases (dom_set).1 hd with h1 | h1; exact e h1; exact hn h1⟩⟩
  have hv1 : VRs w1 (H.set l (.loop N env rec)).dom (.clo (.yield l) [] [] :: cap) (.func (.yield l) #[] #[] :: lb) :=
    VRs.cons (.clo [] [] rfl (fun k x u hx => by simp at hx) rfl (fun k x u hx => by simp at hx)) (hcap.stays st1)
  have tc := hseq l (fun k Hp => ∃ Hb, I k Hb ∧ Hb l = none ∧ Hp = Hb.set l (.loop N env rec))
    (fun Hp => ∃ Hb c, stopQ Q env c Hb ∧ Hb l = none ∧ Hp = Hb.set l (.loop N env { rec with state := .done, pending := some c }))
    (fun k Hp ⟨Hb, h1, h2, h3⟩ => by subst h3; exact uY (hI0 k Hb h1) (vS h2 _))
    (fun k args Hp hk ⟨Hb, h1, h2, h3⟩ => by
      subst h3
      exact range_yield (fnid := fnid) (d := d) hps (hlen args (List.mem_of_getElem? hk)) (fun H' hi => round k args H' hk hi) h2 h1 rec hrec)
    _ ⟨H, h0, hl, rfl⟩
  have hc := calls_fen fr.round (n - 1) (tc _ w1 hv1 hh1)
  have harr : (#[.func (.yield l) #[] #[]] ++ lb.toArray : Array Value) = (.func (.yield l) #[] #[] :: lb).toArray := by simp
  rw [harr]
  refine hc.mono fun e w' ⟨H', ev, hr, q⟩ => ?_
  cases e with
  | panicked ch => exact q.elim
  | outgrown => exact q.elim
  | returned u =>
    obtain ⟨v, _, q⟩ := q
    -- the record, whatever it became, is shut
    have fin : ∀ (Hb : Heap) (rec' : Loop), rec'.state ≠ .busy → Hb l = none → H' = Hb.set l (.loop N env rec') → ∃ w4, (Instr.endLoop l).run P w' = .ok rec'.pending w4 ∧ Evol H w Hb w4 ∧ Rel fr N env Hb a w4 := by
      intro Hb rec' hst hbl e'
      subst e'
      obtain ⟨tmps', hb', _, _⟩ := hr l _ (uO _ _ _)
      have hend := run_endLoop (P := P) hb' hst
      refine ⟨_, hend, ?_⟩
      have evx : EvolX l H w1 Hb (w'.putObj l (.loop { { rec' with tmps := tmps' } with state := .exhausted })) := by
        refine ⟨ev.os, ev.tape, ev.output, by simpa using ev.size, fun g hg hn hne => ?_, fun g hd => ?_⟩
        · exact (World.putObj_heap_other hne).trans (ev.keep g hg (fun hd => by rcases (dom_set).1 hd with h1 | h1; exact hne h1; exact hn h1))
        · have hne : g ≠ l := fun e => by subst e; obtain ⟨o, ho, _⟩ := hd; rw [hbl] at ho; cases ho
          rcases ev.dom g ((dom_set).2 (.inr hd)) with h1 | h1
          · exact .inl (((dom_set).1 h1).resolve_left hne)
          · exact .inr h1
      have hr4 : HeapR (w'.putObj l (.loop { { rec' with tmps := tmps' } with state := .exhausted })) Hb := fun g o hg => by
        have hne : g ≠ l := fun e => by subst e; rw [hbl] at hg; cases hg
        refine (hr g o (by rw [uS _ _ hne]; exact hg)).stays ⟨by simp, fun k hk hn => .inr ⟨World.putObj_heap_other (fun e => hn ((dom_set).2 (.inl e))), fun hd => hn ((dom_set).2 (.inr hd))⟩⟩ (World.putObj_heap_other hne)
      refine ⟨⟨evx.os.trans hnew.os, evx.tape.trans hnew.tape, evx.output.trans hnew.output, Nat.le_trans hnew.size evx.size, fun g hg hn => ?_, fun g hd => ?_⟩, r.x evx nc1 hr4 hm ho⟩
      · exact (evx.keep g (Nat.lt_of_lt_of_le hg hnew.size) hn (by omega)).trans (hnew.keep g hg hn)
      · exact (evx.dom g hd).imp id (fun h => Nat.le_trans hnew.size h)
    rcases q with ⟨Hb, h1, h2, h3⟩ | ⟨Hb, c, h1, h2, h3⟩
    · obtain ⟨w4, k1, k2, k3⟩ := fin Hb rec (by rw [hrec]; simp) h2 h3
      rw [show rec.pending = none by rw [hrec]] at k1
      exact ⟨none, w4, k1, env, Hb, k2, k3, done Hb h1⟩
    · obtain ⟨w4, k1, k2, k3⟩ := fin Hb _ (by simp) h2 h3
      refine ⟨some c, w4, k1, ?_⟩
      rcases h1 with ⟨rfl, hq⟩ | ⟨id, rfl, hq⟩ | ⟨t, rfl, hq⟩
      · exact wpIn_ret ⟨env, Hb, k2, k3, hq⟩
      · exact wpIn_exit ⟨env, Hb, k2, k3, hq⟩
      · exact wpIn_goto ⟨env, Hb, k2, k3, hq⟩
theorem WpC.range {g : Operand} {ps : Array Tmp} {assign body : Code} {gf : FuncId} {cap : List AV} {seq : List (List AV)} {H0 : Heap} (I : Nat → Heap → Prop) (hg : env.ev g = .clo (.func gf) [] cap) (he : enterable P gf = true)
    (hps : ∀ p ∈ ps.toList, Nat.blt p N = true) (hseq : TSeq P gf cap H0 seq) (hlen : ∀ args ∈ seq, args.length = ps.size) (hI0 : ∀ k H, I k H → H0.le H) (h0 : I 0 H)
    (round : ∀ k args H', seq[k]? = some args → I k H' → WpC P N assign (env.putL ps.toList args) H' (thenQ (fun env' H'' => WpC P N body env' H'' (rangeQ (I (k + 1)) Q env)) (fun _ _ _ => False)))
    (done : ∀ H', I seq.length H' → Q .normal env H') (hq : quietN N = false := by rfl) : WpC P N (.rangeFunc g ps assign body) env H Q := fun fr n a w r => by
  refine wpIn_rangeFunc ?_
  intro fn hfn
  have hv := r.ev g
  rw [hg] at hv
  obtain ⟨us0, lb, e0, g1, g2⟩ := hv.clo_inv
  obtain rfl := g1.nil_inv
  have hres : ∀ (l : Nat) (w1 : World), (resolve a.eval (rangeCall g l) 0).run P w1 = .ok { target := .fn (.func gf) lb.toArray, args := #[.func (.yield l) #[] #[]] } w1 := fun l w1 => by
    simp only [resolve, e0]
    simp [go_sem]
  have hinv : ∀ (l : Nat) (w1 : World), (invoke (.fn (.func gf) lb.toArray) #[.func (.yield l) #[] #[]]).run P w1 = .ok (.enter gf (#[.func (.yield l) #[] #[]] ++ lb.toArray)) w1 := fun l w1 => by
    simp [invoke, go_sem, enterable.run he]
  obtain ⟨rd, b, tl⟩ := fr
  cases rd with
  | none =>
    let rec0 : Loop := { state := .ready, pending := none, fn := fn, tmps := #[], params := ps, assign := assign, body := body, defers := w.heap.size }
    have ev1 : Evol H w H (w.alloc (.deferred (some []))) := vY _
    have ev2 : Evol H (w.alloc (.deferred (some []))) H ((w.alloc (.deferred (some []))).alloc (.loop { rec0 with tmps := a.tmps })) := vY _
    have ev := ev1.trans ev2
    have hh := (r.heap.evolN ev1 (fun g o ho => heap_alloc_old w _ (r.heap g o ho).lt)).evolN ev2 (fun g o ho => heap_alloc_old _ _ (by have := (r.heap g o ho).lt; simp; omega))
    have hD : ((w.alloc (.deferred (some []))).alloc (.loop { rec0 with tmps := a.tmps })).heap[w.heap.size]? = some (.deferred (some [])) := (heap_alloc_old _ _ (by simp)).trans (World.alloc_heap_new w _)
    have hL : ((w.alloc (.deferred (some []))).alloc (.loop { rec0 with tmps := a.tmps })).heap[w.heap.size + 1]? = some (.loop { rec0 with tmps := a.tmps }) := by
      have := World.alloc_heap_new (w.alloc (.deferred (some []))) (.loop { rec0 with tmps := a.tmps })
      rwa [World.size_alloc] at this
    have r1 := r.evol ev hh
    have hnD : ¬ H.dom w.heap.size := fun ⟨o, ho, _⟩ => by have := (r.heap _ o ho).lt; omega
    have hne : ∀ d ∈ a.defers, d.target ≠ .collected w.heap.size ∧ d.target ≠ .collected (w.heap.size + 1) := fun d hd => by
      have hn : ∀ g, w.heap.size ≤ g → w.heap[g]? ≠ some (.deferred (some [])) := fun g hg => by rw [Array.getElem?_eq_none hg]; simp
      exact ⟨r.marks.far (hn _ (Nat.le_refl _)) d hd, r.marks.far (hn _ (Nat.le_succ _)) d hd⟩
    have r2 : Rel ⟨none, b, tl⟩ N env H { a with defers := { target := .collected w.heap.size, args := #[] } :: a.defers } ((w.alloc (.deferred (some []))).alloc (.loop { rec0 with tmps := a.tmps })) := by
      obtain ⟨mt, ms, me, m1, m2⟩ := r1.marks
      refine ⟨r1.size, r1.vals, r1.heap, r1.base, ⟨mt, { target := .collected w.heap.size, args := #[] } :: ms, by rw [me]; rfl, fun d hd => ?_, ?_⟩, r1.round, fun hq2 => by rw [hq] at hq2; cases hq2⟩
      · rcases List.mem_cons.1 hd with rfl | hd
        · exact ⟨_, rfl, r.base, hD, hnD⟩
        · exact m1 d hd
      · exact List.pairwise_cons.2 ⟨fun d hd e => (hne d (by rw [me]; simp [hd])).1 e.symm, m2⟩
    refine ⟨w.heap.size + 1, [{ target := .collected w.heap.size, args := #[] }], _, _, _, gf, _, _, run_enterLoop_outer _ _ _ _ _, hres _ _, fun _ _ => trivial, hinv _ _, fun hh => by simp [fen, Fence.wide] at hh, ?_⟩
    exact range_core (fnid := fn) (d := w.heap.size) hps hseq hlen hI0 h0 round done (Nat.le_succ _) (r.heap.fresh (Nat.le_succ _)) ev rec0 rfl hL r2
      (fun d hd => by
        rcases List.mem_cons.1 hd with rfl | hd
        · intro e; injection e with e; omega
        · exact (hne d hd).2) (by simp) (g2.evol ev)
  | some l0 =>
    obtain ⟨k1, rc, k2⟩ := r.round l0 rfl
    let rec0 : Loop := { state := .ready, pending := none, fn := fn, tmps := #[], params := ps, assign := assign, body := body, defers := rc.defers }
    have ev : Evol H w H (w.alloc (.loop { rec0 with tmps := a.tmps })) := vY _
    have hh := r.heap.evolN ev (fun g o ho => heap_alloc_old w _ (r.heap g o ho).lt)
    have hL : (w.alloc (.loop { rec0 with tmps := a.tmps })).heap[w.heap.size]? = some (.loop { rec0 with tmps := a.tmps }) := World.alloc_heap_new w _
    have hlt0 := (Array.getElem?_eq_some_iff.1 k2).1
    refine ⟨w.heap.size, [], _, _, _, gf, _, _, run_enterLoop_inner k2 _ _ _ _ _, hres _ _, fun _ _ => trivial, hinv _ _, fun hh => by simp [fen, Fence.wide] at hh, ?_⟩
    exact range_core (fnid := fn) (d := rc.defers) hps hseq hlen hI0 h0 round done (Nat.le_refl _) (r.heap.fresh (Nat.le_refl _)) ev rec0 rfl hL (r.evol ev hh)
      (fun d hd => by
        exact r.marks.far (by rw [Array.getElem?_eq_none (Nat.le_refl _)]; simp) d hd) (by intro e; injection e with e; omega) (g2.evol ev)
end range
end Go.Vc
set_option linter.unusedVariables false
set_option linter.unusedSimpArgs false
namespace Go.Vc
open Go
inductive Res where
 | cell (g : Nat) (t : TypeId) (cs : List AV)
 | own (t size : Nat) (p : Option (Nat × Nat)) (es : List (List AV))
 | bld (g t et : Nat) (bs : List UInt8)
 | many (p : List (Nat × AObj) → Prop)
def rawPut (b : Nat × AObj) (H1 H : Heap) : Prop := H1 b.1 = none ∧ H = H1.set b.1 b.2
def manyPut : List (Nat × AObj) → Heap → Heap → Prop
 | [], H1, H => H = H1
 | b :: bs, H1, H => ∃ H2, manyPut bs H1 H2 ∧ rawPut b H2 H
def Res.put : Res → Heap → Heap → Prop
 | .cell g t cs, H1, H => H1 g = none ∧ H = H1.set g (.cells t cs)
 | .own t size p es, H1, H => Own H1 t size es es.length p H
 | .bld g t et bs, H1, H => ∃ p a H2, Own H1 et 1 (bs.map encB) (bs.map encB).length p H2 ∧ (H2 g = none ∧ H = H2.set g (.cells t [a, .own (bs.map encB).length p])) ∧ (a = .lit (.pointer none) ∨ a = .lit (.pointer (some ⟨g, 0, none⟩))) ∧ (p ≠ none → bs ≠ [])
 | .many p, H1, H => ∃ bs, p bs ∧ manyPut bs H1 H
def Holds (H0 : Heap) : List Res → Heap → Prop
 | [], H => H = H0
 | r :: rs, H => ∃ H1, Holds H0 rs H1 ∧ r.put H1 H
theorem wH {H1 H : Heap} {t size n : Nat} {es : List (List AV)} {p : Option (Nat × Nat)} (h : Own H1 t size es n p H) : (p = none ∧ es = [] ∧ H = H1) ∨ ∃ g c, p = some (g, c) ∧ H1 g = none ∧ H = H1.set g (.row t size es c) := by
 cases h with
 | nil h => exact .inl ⟨rfl, h, rfl⟩
 | row g c h hn => exact .inr ⟨g, c, rfl, h, rfl⟩
section
variable {H0 H H1 H2 H3 : Heap} {r r1 r2 : Res} {rs : List Res}
theorem Res.put.le (h : r.put H1 H) : H1.le H := by
  have own : ∀ {H1 H : Heap} {t size n : Nat} {es : List (List AV)} {p : Option (Nat × Nat)}, Own H1 t size es n p H → H1.le H := fun h => h.le
  cases r with
  | cell g t cs => rw [h.2]; exact vS h.1 _
  | own t size p es => exact own h
  | bld g t et bs =>
    obtain ⟨p, a, H2, h1, ⟨h2, rfl⟩, _⟩ := h
    exact uY (own h1) (vS h2 _)
  | many p =>
    obtain ⟨bs, _, h⟩ := h
    have key : ∀ (bs : List (Nat × AObj)) (H : Heap), manyPut bs H1 H → H1.le H := by
      intro bs
      induction bs with
      | nil => intro H h; rw [show H = H1 from h]; exact uD _
      | cons b bs ih => intro H ⟨H2, h1, h2, e⟩; rw [e]; exact uY (ih H2 h1) (vS h2 _)
    exact key bs H h
theorem Holds.le : ∀ {rs : List Res} {H : Heap}, Holds H0 rs H → H0.le H
 | [], H, h => by rw [show H = H0 from h]; exact uD _
 | r :: rs, H, ⟨H1, h1, h2⟩ => uY h1.le h2.le
theorem wF {H : Heap} {a b : Nat} (h : a ≠ b) (x y : AObj) : (H.set a x).set b y = (H.set b y).set a x := by
 funext k
 simp only [Heap.set]
 by_cases h1 : k = b
 ·subst h1; simp [Ne.symm h]
 ·simp [h1]
def Res.simple : Res → Bool
 | .bld _ _ _ _ => false
 | _ => true
theorem raw_swap {b c : Nat × AObj} {H1 H2 H3 : Heap} (h1 : rawPut b H1 H2) (h2 : rawPut c H2 H3) : ∃ H', rawPut c H1 H' ∧ rawPut b H' H3 := by
  obtain ⟨a1, rfl⟩ := h1
  obtain ⟨a2, rfl⟩ := h2
  have hne : c.1 ≠ b.1 := by intro e; rw [e, uO] at a2; cases a2
  rw [uS _ _ hne] at a2
  exact ⟨_, ⟨a2, rfl⟩, by rw [uS _ _ (Ne.symm hne)]; exact a1, wF (Ne.symm hne) _ _⟩
theorem raw_own {b : Nat × AObj} {H1 H2 H3 : Heap} {t size : Nat} {p : Option (Nat × Nat)} {es : List (List AV)} (h1 : rawPut b H1 H2) (h2 : Own H2 t size es es.length p H3) : ∃ H', Own H1 t size es es.length p H' ∧ rawPut b H' H3 := by
 rcases wH h2 with ⟨rfl, rfl, rfl⟩ | ⟨g, c, rfl, a, rfl⟩
 ·exact ⟨_, Own.nil rfl, h1⟩
 ·obtain ⟨H', k1, k2⟩ := raw_swap (c := (g, .row t size es c)) h1 ⟨a, rfl⟩
  obtain ⟨k1, rfl⟩ := k1
  exact ⟨_, Own.row g c k1 rfl, k2⟩
theorem own_raw {b : Nat × AObj} {H1 H2 H3 : Heap} {t size : Nat} {p : Option (Nat × Nat)} {es : List (List AV)} (h1 : Own H1 t size es es.length p H2) (h2 : rawPut b H2 H3) : ∃ H', rawPut b H1 H' ∧ Own H' t size es es.length p H3 := by
 rcases wH h1 with ⟨rfl, rfl, rfl⟩ | ⟨g, c, rfl, a, rfl⟩
 ·exact ⟨_, h2, Own.nil rfl⟩
 ·obtain ⟨H', k1, k2, rfl⟩ := raw_swap (b := (g, .row t size es c)) ⟨a, rfl⟩ h2
  exact ⟨H', k1, Own.row g c k2 rfl⟩
theorem many_a {X : Heap → Heap → Prop} (hx : ∀ b H1 H2 H3, rawPut b H1 H2 → X H2 H3 → ∃ H', X H1 H' ∧ rawPut b H' H3) : ∀ (bs : List (Nat × AObj)) {H1 H2 H3 : Heap}, manyPut bs H1 H2 → X H2 H3 → ∃ H', X H1 H' ∧ manyPut bs H' H3
 | [], H1, H2, H3, h1, h2 => by rw [show H2 = H1 from h1] at h2; exact ⟨H3, h2, rfl⟩
 | b :: bs, H1, H2, H3, ⟨Ha, h1, h1'⟩, h2 => by
  obtain ⟨Hb, k1, k2⟩ := hx b _ _ _ h1' h2
  obtain ⟨Hc, k3, k4⟩ := many_a hx bs h1 k1
  exact ⟨Hc, k3, Hb, k4, k2⟩
theorem many_b {X : Heap → Heap → Prop} (hx : ∀ b H1 H2 H3, X H1 H2 → rawPut b H2 H3 → ∃ H', rawPut b H1 H' ∧ X H' H3) : ∀ (bs : List (Nat × AObj)) {H1 H2 H3 : Heap}, X H1 H2 → manyPut bs H2 H3 → ∃ H', manyPut bs H1 H' ∧ X H' H3
 | [], H1, H2, H3, h1, h2 => by rw [← show H3 = H2 from h2] at h1; exact ⟨H1, rfl, h1⟩
 | b :: bs, H1, H2, H3, h1, ⟨Ha, h2, h2'⟩ => by
  obtain ⟨Hb, k1, k2⟩ := many_b hx bs h1 h2
  obtain ⟨Hc, k3, k4⟩ := hx b _ _ _ k2 h2'
  exact ⟨Hc, ⟨Hb, k1, k3⟩, k4⟩
theorem Res.swap0 (s1 : r1.simple = true) (s2 : r2.simple = true) (h1 : r1.put H1 H2) (h2 : r2.put H2 H3) : ∃ H', r2.put H1 H' ∧ r1.put H' H3 := by
  have set2 : ∀ {g g' : Nat} {o : AObj}, (H1.set g o) g' = none → g' ≠ g ∧ H1 g' = none := fun {g g' o} h => by
    have hne : g' ≠ g := by rintro rfl; rw [uO] at h; cases h
    exact ⟨hne, by rw [uS _ _ hne] at h; exact h⟩
  cases r1 with
  | bld => cases s1
  | many p =>
    obtain ⟨bs, hp, h1⟩ := h1
    cases r2 with
    | bld => cases s2
    | cell g t cs =>
      obtain ⟨H', k1, k2⟩ := many_a (X := rawPut (g, .cells t cs)) (fun b H1 H2 H3 h k => raw_swap h k) bs h1 h2
      exact ⟨H', k1, bs, hp, k2⟩
    | own t size p es =>
      obtain ⟨H', k1, k2⟩ := many_a (X := fun H1 H => Own H1 t size es es.length p H) (fun b H1 H2 H3 h k => raw_own h k) bs h1 h2
      exact ⟨H', k1, bs, hp, k2⟩
    | many p2 =>
      obtain ⟨bs2, hp2, h2⟩ := h2
      obtain ⟨H', k1, k2⟩ := many_a (X := manyPut bs2) (fun b H1 H2 H3 h k => many_b (X := rawPut b) (fun c H1 H2 H3 h k => raw_swap h k) bs2 h k) bs h1 h2
      exact ⟨H', ⟨bs2, hp2, k1⟩, bs, hp, k2⟩
  | cell g t cs =>
    have h1r : rawPut (g, .cells t cs) H1 H2 := h1
    obtain ⟨a1, rfl⟩ := h1
    cases r2 with
    | bld => cases s2
    | many p2 =>
      obtain ⟨bs2, hp2, h2⟩ := h2
      obtain ⟨H', k1, k2⟩ := many_b (X := rawPut (g, .cells t cs)) (fun c H1 H2 H3 h k => raw_swap h k) bs2 h1r h2
      exact ⟨H', ⟨bs2, hp2, k1⟩, k2⟩
    | cell g' t' cs' =>
      obtain ⟨a2, rfl⟩ := h2
      obtain ⟨hne, a3⟩ := set2 a2
      exact ⟨_, ⟨a3, rfl⟩, by rw [uS _ _ (Ne.symm hne)]; exact a1, wF (Ne.symm hne) _ _⟩
    | own t' size p es =>
      rcases wH h2 with ⟨rfl, rfl, rfl⟩ | ⟨g', c, rfl, a2, rfl⟩
      · exact ⟨_, Own.nil rfl, a1, rfl⟩
      · obtain ⟨hne, a3⟩ := set2 a2
        exact ⟨_, Own.row g' c a3 rfl, by rw [uS _ _ (Ne.symm hne)]; exact a1, wF (Ne.symm hne) _ _⟩
  | own t size p es =>
    rcases wH h1 with ⟨rfl, rfl, rfl⟩ | ⟨g, c, rfl, a1, rfl⟩
    · exact ⟨_, h2, Own.nil rfl⟩
    · cases r2 with
      | bld => cases s2
      | many p2 =>
        obtain ⟨bs2, hp2, h2⟩ := h2
        obtain ⟨H', k1, k2⟩ := many_b (X := fun H1 H => Own H1 t size es es.length (some (g, c)) H) (fun c H1 H2 H3 h k => own_raw h k) bs2 (Own.row g c a1 rfl) h2
        exact ⟨H', ⟨bs2, hp2, k1⟩, k2⟩
      | cell g' t' cs' =>
        obtain ⟨a2, rfl⟩ := h2
        obtain ⟨hne, a3⟩ := set2 a2
        refine ⟨_, ⟨a3, rfl⟩, ?_⟩
        rw [wF (Ne.symm hne)]
        exact Own.row g c (by rw [uS _ _ (Ne.symm hne)]; exact a1) rfl
      | own t' size' p' es' =>
        rcases wH h2 with ⟨rfl, rfl, rfl⟩ | ⟨g', c', rfl, a2, rfl⟩
        · exact ⟨_, Own.nil rfl, Own.row g c a1 rfl⟩
        · obtain ⟨hne, a3⟩ := set2 a2
          refine ⟨_, Own.row g' c' a3 rfl, ?_⟩
          rw [wF (Ne.symm hne)]
          exact Own.row g c (by rw [uS _ _ (Ne.symm hne)]; exact a1) rfl
theorem Res.swap1 (s2 : r2.simple = true) (h1 : r1.put H1 H2) (h2 : r2.put H2 H3) : ∃ H', r2.put H1 H' ∧ r1.put H' H3 := by
 cases r1 with
 | cell g t cs => exact Res.swap0 rfl s2 h1 h2
 | own t size p es => exact Res.swap0 rfl s2 h1 h2
 | many p => exact Res.swap0 rfl s2 h1 h2
 | bld g t et bs =>
  obtain ⟨p, a, Hx, k1, k2, k3⟩ := h1
  obtain ⟨Hy, m1, m2⟩ := Res.swap0 (r1 := .cell g t [a, .own (bs.map encB).length p]) rfl s2 k2 h2
  obtain ⟨Hz, n1, n2⟩ := Res.swap0 (r1 := .own et 1 p (bs.map encB)) rfl s2 k1 m1
  exact ⟨Hz, n1, p, a, Hy, n2, m2, k3⟩
theorem Res.swap (h1 : r1.put H1 H2) (h2 : r2.put H2 H3) : ∃ H', r2.put H1 H' ∧ r1.put H' H3 := by
 cases r2 with
 | cell g t cs => exact Res.swap1 rfl h1 h2
 | own t size p es => exact Res.swap1 rfl h1 h2
 | many p => exact Res.swap1 rfl h1 h2
 | bld g t et bs =>
  obtain ⟨p, a, Hx, k1, k2, k3⟩ := h2
  obtain ⟨Hy, m1, m2⟩ := Res.swap1 (r2 := .own et 1 p (bs.map encB)) rfl h1 k1
  obtain ⟨Hz, n1, n2⟩ := Res.swap1 (r2 := .cell g t [a, .own (bs.map encB).length p]) rfl m2 k2
  exact ⟨Hz, ⟨p, a, Hy, m1, n1, k3⟩, n2⟩
theorem Holds.at_ : ∀ {rs : List Res} {i : Nat} {H : Heap}, Holds H0 rs H → rs[i]? = some r → ∃ H1, r.put H1 H ∧ H0.le H1 ∧ Holds H0 (rs.eraseIdx i) H1 ∧ ∀ r' H', r'.put H1 H' → Holds H0 (rs.set i r') H'
 | [], i, H, h, hi => by simp at hi
 | r0 :: rs, 0, H, ⟨H1, h1, h2⟩, hi => by
  simp at hi; subst hi
  exact ⟨H1, h2, h1.le, h1, fun r' H' h' => ⟨H1, h1, h'⟩⟩
 | r0 :: rs, i + 1, H, ⟨H2, h1, h2⟩, hi => by
  obtain ⟨H3, k1, k2, k3, k4⟩ := Holds.at_ (i := i) h1 (by simpa using hi)
  obtain ⟨H4, m1, m2⟩ := Res.swap k1 h2
  exact ⟨H4, m2, uY k2 m1.le, ⟨H3, k3, m1⟩, fun r' H' h' => by
   obtain ⟨X, x1, x2⟩ := Res.swap m1 h'
   exact ⟨X, k4 r' X x1, x2⟩⟩
theorem Holds.one (h : r.put H1 H) : Holds H1 [r] H := ⟨H1, rfl, h⟩
theorem Holds.one_inv (h : Holds H1 [r] H) : r.put H1 H := by obtain ⟨X, rfl, h⟩ := h; exact h
theorem Holds.cell {i g t : Nat} {cs : List AV} (h : Holds H0 rs H) (hi : rs[i]? = some (.cell g t cs)) : H g = some (.cells t cs) := by
 obtain ⟨H1, ⟨_, rfl⟩, _⟩ := h.at_ hi
 exact uO _ _ _
theorem Holds.row {i g c t size : Nat} {es : List (List AV)} (h : Holds H0 rs H) (hi : rs[i]? = some (.own t size (some (g, c)) es)) : H g = some (.row t size es c) := by
 obtain ⟨H1, k, _⟩ := h.at_ hi
 rcases wH k with ⟨h1, _⟩ | ⟨g', c', h1, h2, rfl⟩
 ·cases h1
 ·injection h1 with h1; injection h1 with h1 h3; subst h1; subst h3
  exact uO _ _ _
theorem Holds.grown {i t size : Nat} {p : Option (Nat × Nat)} {es : List (List AV)} (h : Holds H0 rs H) (hi : rs[i]? = some (.own t size p es)) (hne : es ≠ []) : ∃ g c, p = some (g, c) := by
 obtain ⟨H1, k, _⟩ := h.at_ hi
 rcases wH k with ⟨_, h1, _⟩ | ⟨g', c', h1, _⟩
 ·exact (hne h1).elim
 ·exact ⟨g', c', h1⟩
theorem Holds.src {i t size : Nat} {p : Option (Nat × Nat)} {es : List (List AV)} (h : Holds H0 rs H) (hi : rs[i]? = some (.own t size p es)) : Src H size (.own es.length p) es := by
 obtain ⟨H1, k, _⟩ := h.at_ hi
 exact Own.src (t := t) k
theorem Holds.nil (t size : Nat) (h : Holds H0 rs H) : Holds H0 (.own t size none [] :: rs) H := ⟨H, h, Own.nil rfl⟩
theorem Holds.new {g t : Nat} {cs : List AV} (h : Holds H0 rs H) (hg : H g = none) : Holds H0 (.cell g t cs :: rs) (H.set g (.cells t cs)) := ⟨H, h, hg, rfl⟩
theorem Holds.newRow {g c t size : Nat} {es : List (List AV)} (h : Holds H0 rs H) (hg : H g = none) : Holds H0 (.own t size (some (g, c)) es :: rs) (H.set g (.row t size es c)) := ⟨H, h, Own.row g c hg rfl⟩
theorem vR {g t : Nat} {cs : List AV} (h : H g = some (.cells t cs)) : Holds (H.del g) [.cell g t cs] H := ⟨_, rfl, by simp [Heap.del], by
  funext k; simp only [Heap.set, Heap.del]; split
  · rename_i e; rw [e, h]
  · rfl⟩
end
section rules
variable {P : Program} {o : Oper} {env : Env} {H H0 : Heap} {K : AV → Heap → Prop} {E : List PanicEntry → Heap → Prop} {rs : List Res}
theorem vL {α : Type} (cT : α → List AV) (l xs : List α) {x y : Operand} {t e : TypeId} {size bytes i : Nat} {p : Option (Nat × Nat)} {src : AV} (ho : o.op = .call { callee := .builtin .append, args := #[x, y], argTypes := #[t, t] }) (ek : ElemOk P t e size bytes)
    (hh : Holds H0 rs H) (hi : rs[i]? = some (.own e size p (l.map cT))) (hx : env.ev x = .own (l.map cT).length p) (hy : env.ev y = src) (hs : Src H size src (xs.map cT)) (h1 : ∀ x ∈ xs, (cT x).all AV.one = true) (hne : xs ≠ []) (hb : (l.length + xs.length) * bytes ≤ 140737488355328) (hb1 : 1 ≤ bytes)
    (hk : ∀ p' H', Holds H0 (rs.set i (.own e size p' ((l ++ xs).map cT))) H' → K (.own ((l ++ xs).map cT).length p') H') : WpO P o env H K E := by
  obtain ⟨H1, k1, k2, k3, k4⟩ := hh.at_ hi
  have h63 : l.length + xs.length ≤ 140737488355328 := Nat.le_trans (Nat.le_mul_of_pos_right _ hb1) hb
  refine WpO.push (es := xs.map cT) ho ek hx k1 hy hs (fun e he => by obtain ⟨x, hx, rfl⟩ := List.mem_map.1 he; exact h1 x hx) (by simpa using hne) (by simpa using h63) (by simpa using hb) fun p' H' own' => ?_
  have e1 : l.map cT ++ xs.map cT = (l ++ xs).map cT := by simp
  have e2 : (l.map cT).length + (xs.map cT).length = ((l ++ xs).map cT).length := by simp
  rw [e1, e2] at own'
  rw [e2]
  exact hk p' H' (k4 _ H' own')
theorem uQ {t ty : TypeId} {x y : Operand} {g off i : Nat} {cs cs' : List AV} {v : AV} (ho : o.op = .store t x y) (hx : env.ev x = .lit (.pointer (some ⟨g, off, none⟩))) (hh : Holds H0 rs H) (hi : rs[i]? = some (.cell g ty cs)) (hy : forceA (env.ev y) some = some v)
  (h1 : (cellsA v).all AV.one = true) (hs : P.cellsOf t = (cellsA v).length) (hz : Nat.ble 1 (cellsA v).length = true) (hfit : Nat.ble (off + (cellsA v).length) cs.length = true) (hc : forceL (spliceA cs off (cellsA v)) some = some cs') (hk : ∀ H', Holds H0 (rs.set i (.cell g ty cs')) H' → K (.lit undef) H') : WpO P o env H K E := by
 obtain ⟨H1, ⟨k1, rfl⟩, k2, k3, k4⟩ := hh.at_ hi
 refine WpO.put ho hx (uO _ _ _) hy h1 hs hz hfit hc ?_
 rw [vT]
 exact hk _ (k4 _ _ ⟨k1, rfl⟩)
theorem vC {t : TypeId} {z : List AV} (ho : o.op = .alloc t) (hz : zeroA P t = some z) (hh : Holds H0 rs H) (hk : ∀ g H', Holds H0 (.cell g t z :: rs) H' → K (.lit (.pointer (some ⟨g, 0, none⟩))) H') : WpO P o env H K E :=
 WpO.alloc ho hz fun g hg => hk g _ (hh.new hg)
theorem vF {t : TypeId} {x : Operand} {v : AV} (ho : o.op = .box t x) (hx : env.ev x = v) (hh : Holds H0 rs H) (hk : ∀ g H', Holds H0 (.cell g t (cellsA v) :: rs) H' → K (.lit (.pointer (some ⟨g, 0, none⟩))) H') : WpO P o env H K E :=
 WpO.box ho hx fun g hg => hk g _ (hh.new hg)
theorem vH {f : FuncId} {args : Array Operand} {ts : Array TypeId} {xs : List AV} {i : Nat} {r r' : Res} {v : AV} (ho : o.op = .call { callee := .value (.func f), args := args, argTypes := ts }) (he : enterable P f = true) (hx : forceL (args.toList.map env.ev) some = some xs) (hh : Holds H0 rs H) (hi : rs[i]? = some r)
  (h : ∀ H1, H0.le H1 → Holds H1 [r] H → TCall P f xs H (fun u H' => u = v ∧ Holds H1 [r'] H') noE) (hk : ∀ H', Holds H0 (rs.set i r') H' → K v H') : WpO P o env H K E := by
 obtain ⟨H1, k1, k2, k3, k4⟩ := hh.at_ hi
 refine WpO.call ho he hx ((h H1 k2 (.one k1)).mono ?_ (fun _ _ h => h.elim))
 rintro _ H' ⟨rfl, h'⟩
 exact hk H' (k4 _ _ h'.one_inv)
end rules
section code
variable {P : Program} {N : Nat} {c : Code} {env : Env} {H H0 : Heap} {Q : QC} {rs : List Res}
theorem vJ {t ty size i : Nat} {p : Option (Nat × Nat)} {es : List (List AV)} (h : Holds H0 rs H) (hi : rs[i]? = some (.own ty size p es)) (ht : env t = .own es.length p) (k : ∀ H', Holds H0 (rs.eraseIdx i) H' → WpC P N c (env.put (some t) (.rows size es)) H' Q) : WpC P N c env H Q := by
 obtain ⟨H1, k1, k2, k3, k4⟩ := h.at_ hi
 refine WpC.up (t := t) (u := .rows size es) (H' := H1) ?_ (k H1 k3)
 rw [ht]
 exact Own.up k1
theorem uP {i : Nat} {r : Res} (h : Holds H0 rs H) (hi : rs[i]? = some r) (k : ∀ H', Holds H0 (rs.eraseIdx i) H' → WpC P N c env H' Q) : WpC P N c env H Q := by
 obtain ⟨H1, k1, k2, k3, k4⟩ := h.at_ hi
 exact WpC.drop k1.le (k H1 k3)
def Sub (x y : AV) : Prop := ∀ w D u, VR w D x u → VR w D y u
theorem Sub.refl (x : AV) : Sub x x := fun _ _ _ h => h
theorem Sub.nil (size : Nat) : Sub (.own 0 none) (.rows size []) := fun w D u h => by obtain ⟨_, rfl⟩ := h.nil_inv; exact .rows0
inductive Subs : List AV → List AV → Prop
 | nil : Subs [] []
 | cons {x y : AV} {xs ys : List AV} (h : Sub x y) (hs : Subs xs ys) : Subs (x :: xs) (y :: ys)
theorem Subs.refl : ∀ xs, Subs xs xs
 | [] => .nil
 | x :: xs => .cons (.refl x) (Subs.refl xs)
theorem Subs.vrs {w : World} {D : Nat → Prop} {xs ys : List AV} (h : Subs xs ys) : ∀ {us : List Value}, VRs w D xs us → VRs w D ys us := by
  induction h with
  | nil => exact fun h => h
  | cons h hs ih => intro us hv; obtain ⟨u, us', rfl, h1, h2⟩ := hv.cons_inv; exact .cons (h _ _ _ h1) (ih h2)
theorem Sub.agg {xs ys : List AV} (h : Subs xs ys) : Sub (.agg xs) (.agg ys) := fun w D u hv => by
 obtain ⟨us, rfl, h1⟩ := hv.agg_inv
 have := h.vrs h1
 exact .agg us this.1 this.2
theorem Sub.tup {xs ys : List AV} (h : Subs xs ys) : Sub (.tup xs) (.tup ys) := fun w D u hv => by
 obtain ⟨us, rfl, h1⟩ := hv.tup_inv
 have := h.vrs h1
 exact .tup us this.1 this.2
theorem WpC.sub {t : Nat} {u : AV} (hs : Sub (env t) u) (k : WpC P N c (env.put (some t) u) H Q) : WpC P N c env H Q :=
 WpC.up (H' := H) ⟨uD _, fun w x _ h => hs _ _ _ h⟩ k
theorem TCall.sub {f : FuncId} {args : List AV} {K : AV → Heap → Prop} {E : List PanicEntry → Heap → Prop} (h : TCall P f args H (fun v H' => ∃ u, Sub v u ∧ K u H') E) : TCall P f args H K E :=
 TCall.up (h.mono (fun v H' ⟨u, h1, h2⟩ => ⟨u, H', ⟨uD _, fun w x _ h => h1 _ _ _ h⟩, h2⟩) (fun _ _ h => h))
theorem TCall.args {f : FuncId} {args args' : List AV} {K : AV → Heap → Prop} {E : List PanicEntry → Heap → Prop} (hs : Subs args args') (h : TCall P f args' H K E) : TCall P f args H K E :=
 fun us w hv hh => h us w (hs.vrs hv) hh
theorem uX {σ ρ α : Type} (f : σ → Option (Sh.Step σ ρ)) (L : σ → α → List (Nat × AV)) (J : σ → α → Heap → Prop) (o : ρ) (s0 : σ) (a0 : α) (h : Sh.loopS f s0 = some o) (hk : knows env (L s0 a0)) (hj : J s0 a0 H)
    (body : ∀ s a st env H, f s = some st → (∀ x, st = .done x → x = o) → J s a H → WpC P N c (Env.of (L s a) env) H (thenQ (fun env' H' => ∃ s' a', st = .next s' ∧ knows env' (L s' a') ∧ J s' a' H') Q)) : WpC P N (.loop c) env H Q := by
  have key : ∀ n s, Sh.iterS f n s = some o → ∀ a env H, knows env (L s a) → J s a H → WpC P N (.loop c) env H Q := by
    intro n s hn a env H hk hj
    refine WpC.loop (fun n env H => ∃ s a, Sh.iterS f n s = some o ∧ knows env (L s a) ∧ J s a H) n ⟨s, a, hn, hk, hj⟩ ?_
    rintro n env H ⟨s, a, hn, hk, hj⟩
    cases n with
    | zero => cases hn
    | succ n =>
      unfold Sh.iterS at hn
      cases hf : f s with
      | none => rw [hf] at hn; cases hn
      | some st =>
        rw [hf] at hn
        rw [← hk.eq]
        refine (body s a st env H hf (fun x hx => by subst hx; simp only [Option.some.injEq] at hn; exact hn) hj).mono ?_
        intro e env2 H2 q
        cases e with
        | normal =>
          obtain ⟨s', a', rfl, h1, h2⟩ := q
          exact ⟨n, Nat.lt_succ_self n, s', a', hn, h1, h2⟩
        | exit id => exact q
        | goto l => exact q
        | ret => exact q
        | panic ch => exact q
        | outgrown => exact q
  exact key _ s0 h a0 env H hk hj
end code
end Go.Vc
