/-
  Ranges over functions in the calculus: a call of yield, an iterator's contract, the loop; what a function hands back out of a cell.
-/
import Derived.Test.YtffgaoehhmgbjaaDoorVs
set_option linter.unusedVariables false
set_option linter.unusedSimpArgs false
namespace Go.Vc
open Go

/-- a call of a loop's yield -/
def TYield (P : Program) (l : Nat) (args : List AV) (H : Heap) (K : AV → Heap → Prop) : Prop :=
  ∀ us w, VRs w H.dom args us → HeapR w H → ∃ fn tmps assign body, (Instr.yield l us.toArray).run P w = .ok (.round l fn tmps assign body) w ∧ ∀ n, RoundIn Fence.wide n P l fn tmps assign body w fun e w' =>
    ∃ H', Evol H w H' w' ∧ HeapR w' H' ∧ (match e with
      | .returned u => ∃ v, VR w' H'.dom v u ∧ K v H'
      | _ => False)

abbrev tt : AV := .lit (.bool true)
abbrev ff : AV := .lit (.bool false)

/-- an iterator yields just these, one by one, till it is told to stop -/
def TSeq (P : Program) (gf : FuncId) (cap : List AV) (H0 : Heap) (seq : List (List AV)) : Prop :=
  ∀ (l : Nat) (J : Nat → Heap → Prop) (Jx : Heap → Prop), (∀ k H, J k H → H0.le H) →
    (∀ k args H, seq[k]? = some args → J k H → TYield P l args H (fun v H' => (v = tt ∧ J (k + 1) H') ∨ (v = ff ∧ Jx H'))) →
    ∀ H, J 0 H → TCall P gf (.clo (.yield l) [] [] :: cap) H (fun _ H' => J seq.length H' ∨ Jx H') noE

theorem round_fen {P : Program} {n l : Nat} {fn : FuncId} {tmps : Array Value} {assign body : Code} {w : World} {R : Ending → World → Prop} (r : Option Nat) (h : RoundIn Fence.wide n P l fn tmps assign body w R) : RoundIn (fen r) n P l fn tmps assign body w R := h

section
variable {P : Program} {o : Oper} {env : Env} {H : Heap} {K : AV → Heap → Prop} {E : List PanicEntry → Heap → Prop}
/-- yield called -/
theorem WpO.call_yield {x : Operand} {l : Nat} {args : Array Operand} {ts : Array TypeId} {xs : List AV} (ho : o.op = .call { callee := .value x, args := args, argTypes := ts }) (hf : env.ev x = .clo (.yield l) [] []) (hx : forceL (args.toList.map env.ev) some = some xs) (h : TYield P l xs H K) : WpO P o env H K E := by
  rw [forceL_eq] at hx
  injection hx with hx; subst hx
  intro r n a w ⟨hr, hh⟩ K' Q' h1 h2
  rw [ho] at hr
  have e0 := hr x (by simp [Op.operands, Call.operands])
  rw [hf] at e0
  obtain ⟨us, vs, e1, g1, g2⟩ := e0.clo_inv
  obtain rfl := g1.nil_inv
  obtain rfl := g2.nil_inv
  obtain ⟨fn, tmps, assign, body, hy, hR⟩ := h (args.toList.map a.eval) w (evs_VRs fun y hy => hr y (by simp [Op.operands, Call.operands]; exact .inr (by simpa using hy))) hh
  have hrun : (execOp a.eval o).run P w = .ok (.round l fn tmps assign body) w := by
    unfold execOp
    rw [ho]
    simp only [resolve, e1, Deferred.ofValue, Sem.run_bind, Sem.run_pure, Result.andThen_ok, invoke]
    rw [← hy]
    congr 2
    apply Array.ext'; simp
  refine ⟨fun _ _ => trivial, ?_⟩
  rw [sem_noDefer (by simp [noDefer, ho]), hrun]
  refine ⟨fun hh => by simp [fen, Fence.wide] at hh, ?_⟩
  refine (round_fen r (hR (n - 1))).mono fun e w' ⟨H', e1, r1, r2⟩ => ?_
  cases e with
  | returned u => obtain ⟨v, r3, r4⟩ := r2; exact h1 v u H' w' e1 r1 r3 r4
  | panicked ch => exact r2.elim
  | outgrown => exact r2.elim
end

/-- a world goes on; block l, that nobody owns and that holds no cells, may turn -/
structure EvolX (l : Nat) (H : Heap) (w : World) (H' : Heap) (w' : World) : Prop where
  os : w'.os = w.os
  tape : w'.tape = w.tape
  output : w'.output = w.output
  size : w.heap.size ≤ w'.heap.size
  keep : ∀ g, g < w.heap.size → ¬ H.dom g → g ≠ l → w'.heap[g]? = w.heap[g]?
  dom : ∀ g, H'.dom g → H.dom g ∨ w.heap.size ≤ g
theorem EvolX.stays {l : Nat} {H H' : Heap} {w w' : World} (e : EvolX l H w H' w') (hl : NonCells w l) : Stays w H.dom w' H'.dom := ⟨e.size, fun g hg hn => by
  by_cases h : g = l
  · subst h; exact .inl hl
  · exact .inr ⟨e.keep g hg hn h, fun hd => by rcases e.dom g hd with h1 | h1; exact hn h1; omega⟩⟩
theorem Evol.x {H H' : Heap} {w w' : World} (e : Evol H w H' w') (l : Nat) : EvolX l H w H' w' := ⟨e.os, e.tape, e.output, e.size, fun g h1 h2 _ => e.keep g h1 h2, e.dom⟩
theorem EvolX.trans {l : Nat} {A B C : Heap} {a b c : World} (h : EvolX l A a B b) (k : EvolX l B b C c) : EvolX l A a C c where
  os := k.os.trans h.os
  tape := k.tape.trans h.tape
  output := k.output.trans h.output
  size := Nat.le_trans h.size k.size
  keep := fun g hg hn hl => (k.keep g (Nat.lt_of_lt_of_le hg h.size) (fun hd => by rcases h.dom g hd with h1 | h1; exact hn h1; omega) hl).trans (h.keep g hg hn hl)
  dom := fun g hg => by
    rcases k.dom g hg with h1 | h1
    · exact h.dom g h1
    · exact .inr (Nat.le_trans h.size h1)
theorem EvolX.put (l : Nat) (H : Heap) (w : World) (o : Obj) : EvolX l H w H (w.putObj l o) :=
  ⟨rfl, rfl, rfl, by simp, fun g _ _ h => World.putObj_heap_other h, fun g hd => .inl hd⟩
theorem HeapR.x {l : Nat} {H : Heap} {w w' : World} (h : HeapR w H) (e : EvolX l H w H w') (hl : NonCells w l) (hk : ∀ g o, H g = some o → w'.heap[g]? = w.heap[g]?) : HeapR w' H := fun g o hg =>
  (h g o hg).stays (e.stays hl) (hk g o hg)
theorem Rel.x {fr : Fr} {N l : Nat} {env : Env} {H H' : Heap} {a : Act} {w w' : World} (h : Rel fr N env H a w) (e : EvolX l H w H' w') (hl : NonCells w l) (hr : HeapR w' H') (hm : ∀ d ∈ a.defers, d.target ≠ .collected l) (ho : fr.round ≠ some l) : Rel fr N env H' a w' := by
  have hs := e.stays hl
  obtain ⟨mt, ms, me, m1, m2⟩ := h.marks
  refine ⟨h.size, fun t => (h.vals t).stays hs, hr, Nat.le_trans h.base e.size, ⟨mt, ms, me, fun d hd => ?_, m2⟩, fun l0 h0 => ?_, h.quiet⟩
  · obtain ⟨D, rfl, h2, h3, h4⟩ := m1 d hd
    have hne : D ≠ l := fun e => hm { target := .collected D, args := #[] } (by rw [me]; simp [hd]) (by rw [e])
    have hlt := (Array.getElem?_eq_some_iff.1 h3).1
    exact ⟨D, rfl, h2, (e.keep D hlt h4 hne).trans h3, fun hd => by rcases e.dom D hd with h1 | h1; exact h4 h1; omega⟩
  · obtain ⟨k1, rec, k2⟩ := h.round l0 h0
    have hne : l0 ≠ l := fun e => ho (by rw [h0, e])
    have hlt := (Array.getElem?_eq_some_iff.1 k2).1
    exact ⟨fun hd => by rcases e.dom l0 hd with h1 | h1; exact k1 h1; omega, rec, (e.keep l0 hlt k1 hne).trans k2⟩

def Env.putL (env : Env) : List Tmp → List AV → Env
  | p :: ps, v :: vs => Env.putL (env.put (some p) v) ps vs
  | _, _ => env

theorem putL_fold {w : World} {D : Nat → Prop} : ∀ (ps : List Tmp) (args : List AV) (us : List Value) (env : Env) (tmps : Array Value), VRs w D args us → (∀ p ∈ ps, p < tmps.size) → (∀ t, VR w D (env t) (tmps.getD t undef)) →
    ((ps.zip us).foldl (fun t (p, v) => t.setIfInBounds p v) tmps).size = tmps.size ∧ ∀ t, VR w D (env.putL ps args t) (((ps.zip us).foldl (fun t (p, v) => t.setIfInBounds p v) tmps).getD t undef)
  | [], args, us, env, tmps, _, _, h => by cases args <;> exact ⟨rfl, h⟩
  | p :: ps, [], us, env, tmps, hv, _, h => by obtain rfl := hv.nil_inv; exact ⟨rfl, h⟩
  | p :: ps, x :: args, us, env, tmps, hv, hp, h => by
    obtain ⟨u, us', rfl, h1, h2⟩ := hv.cons_inv
    have := putL_fold ps args us' (env.put (some p) x) (tmps.setIfInBounds p u) h2 (fun q hq => by simpa using hp q (by simp [hq])) (fun t => by
      by_cases ht : t = p
      · subst ht
        have hs : t < tmps.size := hp t (by simp)
        have : (tmps.setIfInBounds t u).getD t undef = u := by simp [Array.getD_eq_getD_getElem?, hs]
        rw [this]; simpa [Env.put] using h1
      · have : (tmps.setIfInBounds p u).getD t undef = tmps.getD t undef := by
          simp only [Array.getD_eq_getD_getElem?]
          rw [Array.getElem?_setIfInBounds_ne (fun e => ht e.symm)]
        rw [this]
        simpa [Env.put, ht] using h t)
    refine ⟨by simpa using this.1, this.2⟩

/-- how a round may be left -/
def rangeQ (I : Heap → Prop) (Q : QC) (env : Env) : QC
  | .normal, _, H => I H
  | .ret, _, H => Q .ret env H
  | .exit id, _, H => Q (.exit id) env H
  | .goto l, _, H => Q (.goto l) env H
  | _, _, _ => False
def stopQ (Q : QC) (env : Env) (c : Code) (H : Heap) : Prop := (c = .ret ∧ Q .ret env H) ∨ (∃ id, c = .exit id ∧ Q (.exit id) env H) ∨ ∃ l, c = .goto l ∧ Q (.goto l) env H

theorem dom_set {H : Heap} {l g : Nat} {o : AObj} (ho : o.ownd = true := by rfl) : (H.set l o).dom g ↔ g = l ∨ H.dom g := by
  constructor
  · rintro ⟨x, hx, h1⟩
    by_cases h : g = l
    · exact .inl h
    · rw [Heap.set_ne _ _ h] at hx; exact .inr ⟨x, hx, h1⟩
  · rintro (rfl | ⟨x, hx, h1⟩)
    · exact ⟨o, Heap.set_same _ _ _, ho⟩
    · by_cases h : g = l
      · subst h; exact ⟨o, Heap.set_same _ _ _, ho⟩
      · exact ⟨x, by rw [Heap.set_ne _ _ h]; exact hx, h1⟩

/-- a record of a loop comes to what is owned -/
theorem HeapR.loop {w : World} {H : Heap} {l N : Nat} {env : Env} {rec : Loop} {tmps : Array Value} (h : HeapR w H) (hl : H l = none) (hb : w.heap[l]? = some (.loop { rec with tmps := tmps })) (hs : tmps.size = N) (hv : ∀ t, VR w H.dom (env t) (tmps.getD t undef)) : HeapR w (H.set l (.loop N env rec)) := by
  have st : Stays w H.dom w (H.set l (.loop N env rec)).dom := ⟨Nat.le_refl _, fun g hg hn => by
    by_cases e : g = l
    · subst e; exact .inl ⟨_, hb, rfl⟩
    · exact .inr ⟨rfl, fun hd => by rcases (dom_set).1 hd with h1 | h1; exact e h1; exact hn h1⟩⟩
  intro g o hg
  by_cases e : g = l
  · subst e
    rw [Heap.set_same] at hg
    injection hg with hg; subst hg
    exact ⟨tmps, hb, hs, fun t => (hv t).stays st⟩
  · rw [Heap.set_ne _ _ e] at hg
    exact (h g o hg).stays st rfl

section range
variable {P : Program} {N : Nat} {env : Env} {H : Heap} {Q : QC}

/-- one call of yield -/
theorem range_yield {ps : Array Tmp} {assign body : Code} {l fnid d : Nat} {I : Nat → Heap → Prop} {k : Nat} {args : List AV} {Hb : Heap} (hps : ∀ p ∈ ps.toList, Nat.blt p N = true) (hlen : args.length = ps.size)
    (round : ∀ H', I k H' → WpC P N assign (env.putL ps.toList args) H' (thenQ (fun env' H'' => WpC P N body env' H'' (rangeQ (I (k + 1)) Q env)) (fun _ _ _ => False)))
    (hl : Hb l = none) (hi : I k Hb) (rec : Loop) (hrec : rec = { state := .ready, pending := none, fn := fnid, tmps := #[], params := ps, assign := assign, body := body, defers := d }) :
    TYield P l args (Hb.set l (.loop N env rec)) (fun v H' => (v = tt ∧ ∃ Hb', I (k + 1) Hb' ∧ Hb' l = none ∧ H' = Hb'.set l (.loop N env rec)) ∨
      (v = ff ∧ ∃ Hb' c, stopQ Q env c Hb' ∧ Hb' l = none ∧ H' = Hb'.set l (.loop N env { rec with state := .done, pending := some c }))) := by
  intro us w hv hh
  obtain ⟨tmps, hb, hsz, hvals⟩ := hh l _ (Heap.set_same _ _ _)
  have hle : Hb.le (Hb.set l (.loop N env rec)) := Heap.set_drop hl _
  have hvs : VRs w Hb.dom args us := hv.evol (Evol.drop w hle)
  have hhb : HeapR w Hb := hh.drop hle
  have hvb : ∀ t, VR w Hb.dom (env t) (tmps.getD t undef) := fun t => (hvals t).evol (Evol.drop w hle)
  have hnd : ¬ Hb.dom l := fun ⟨o, ho, _⟩ => by rw [hl] at ho; cases ho
  refine ⟨fnid, (ps.zip us.toArray).foldl (fun t (p, v) => t.setIfInBounds p v) tmps, assign, body, ?_, fun n => ?_⟩
  · have := run_yield (P := P) (args := us.toArray) hb (by rw [hrec]; simp [hvs.1, hlen])
    rw [hrec] at this
    exact this
  refine roundIn_of_wpIn trivial ?_
  -- the round's own frame
  have hfold := putL_fold (w := w) (D := Hb.dom) ps.toList args us env tmps hvs (fun p hp => by have h1 := hps p hp; rw [Nat.blt_eq] at h1; rw [hsz]; exact h1) hvb
  have hfe : (ps.zip us.toArray).foldl (fun t (p, v) => t.setIfInBounds p v) tmps = (ps.toList.zip us).foldl (fun t (p, v) => t.setIfInBounds p v) tmps := by
    rw [← Array.foldl_toList, Array.toList_zip]
  have r0 : Rel ⟨some l, 0, []⟩ N (env.putL ps.toList args) Hb { tmps := (ps.zip us.toArray).foldl (fun t (p, v) => t.setIfInBounds p v) tmps, defers := [] } w := by
    refine ⟨?_, fun t => ?_, hhb, Nat.zero_le _, ⟨fun d hd => by simp at hd, [], rfl, fun d hd => by simp at hd, .nil⟩, fun l0 h0 => ?_, fun _ => rfl⟩
    · show ((ps.zip us.toArray).foldl _ tmps).size = N
      rw [hfe, hfold.1, hsz]
    · show VR w Hb.dom _ (((ps.zip us.toArray).foldl _ tmps).getD t undef)
      rw [hfe]; exact hfold.2 t
    · injection h0 with h0; subst h0
      exact ⟨hnd, _, hb⟩
  refine wpIn_mono (round Hb hi ⟨some l, 0, []⟩ n _ w r0) ?_
  rintro e a1 w1 ⟨env1, H1, ev1, r1, q1⟩
  cases e with
  | normal =>
    obtain ⟨k1, hd1⟩ := ev1.hk l (Array.getElem?_eq_some_iff.1 hb).1 hnd
    have hb1 := k1.trans hb
    have hst : ({ rec with tmps := tmps } : Loop).state = .ready := by rw [hrec]
    refine ⟨_, run_beginRound hb1 hst, ?_⟩
    have hl1lt := (Array.getElem?_eq_some_iff.1 hb1).1
    have nc1 : NonCells w1 l := ⟨_, hb1, rfl⟩
    have hk1 : ∀ o g x, H1 g = some x → (w1.putObj l o).heap[g]? = w1.heap[g]? := fun o g x hg => World.putObj_heap_other (fun e => by subst e; rw [r1.heap.absent hd1 nc1] at hg; cases hg)
    have r2 : Rel ⟨some l, 0, []⟩ N env1 H1 a1 (w1.putObj l (.loop { { rec with tmps := tmps } with state := .busy })) := by
      obtain ⟨mt, ms, me, m1, m2⟩ := r1.marks
      refine ⟨r1.size, fun t => (r1.vals t).stays ((EvolX.put l H1 w1 _).stays nc1), r1.heap.x (EvolX.put l H1 w1 _) nc1 (hk1 _), Nat.zero_le _, ⟨mt, ms, me, fun d hd => ?_, m2⟩, fun l0 h0 => ?_, r1.quiet⟩
      · obtain ⟨D, rfl, h2, h3, h4⟩ := m1 d hd
        have hne : D ≠ l := fun e => by subst e; rw [hb1] at h3; cases h3
        exact ⟨D, rfl, h2, (World.putObj_heap_other hne).trans h3, h4⟩
      · injection h0 with h0; subst h0
        exact ⟨hd1, _, World.putObj_heap_same hl1lt⟩
    refine wpIn_mono (q1 ⟨some l, 0, []⟩ n a1 _ r2) ?_
    rintro e a3 w3 ⟨env3, H3, ev3, r3, q3⟩
    have hb2 : (w1.putObj l (.loop { { rec with tmps := tmps } with state := .busy })).heap[l]? = some (.loop { { rec with tmps := tmps } with state := .busy }) := World.putObj_heap_same hl1lt
    obtain ⟨k3, hd3⟩ := ev3.hk l (Array.getElem?_eq_some_iff.1 hb2).1 hd1
    have hb3 := k3.trans hb2
    have hl3lt := (Array.getElem?_eq_some_iff.1 hb3).1
    have nc3 : NonCells w3 l := ⟨_, hb3, rfl⟩
    have hl3 : H3 l = none := r3.heap.absent hd3 nc3
    -- whatever the record becomes
    have fin : ∀ rec' : Loop, ∃ H', H' = H3.set l (.loop N env rec') ∧ Evol (Hb.set l (.loop N env rec)) w H' (w3.putObj l (.loop { rec' with tmps := tmps })) ∧ HeapR (w3.putObj l (.loop { rec' with tmps := tmps })) H' := by
      intro rec'
      have evx : EvolX l Hb w H3 (w3.putObj l (.loop { rec' with tmps := tmps })) :=
        (ev1.x l).trans ((EvolX.put l H1 w1 _).trans ((ev3.x l).trans (EvolX.put l H3 w3 _)))
      have ev : Evol (Hb.set l (.loop N env rec)) w (H3.set l (.loop N env rec')) (w3.putObj l (.loop { rec' with tmps := tmps })) := by
        refine ⟨evx.os, evx.tape, evx.output, evx.size, fun g hg hn => ?_, fun g hd => ?_⟩
        · exact evx.keep g hg (fun h => hn ((dom_set).2 (.inr h))) (fun e => hn ((dom_set).2 (.inl e)))
        · rcases (dom_set).1 hd with h | h
          · exact .inl ((dom_set).2 (.inl h))
          · exact (evx.dom g h).imp (fun h => (dom_set).2 (.inr h)) id
      refine ⟨_, rfl, ev, ?_⟩
      have st3 : Stays w3 H3.dom (w3.putObj l (.loop { rec' with tmps := tmps })) (H3.set l (.loop N env rec')).dom := ⟨by simp, fun g hg hn => by
        by_cases e : g = l
        · subst e; exact .inl nc3
        · exact .inr ⟨World.putObj_heap_other e, fun hd => by rcases (dom_set).1 hd with h1 | h1; exact e h1; exact hn h1⟩⟩
      intro g o hg
      by_cases e : g = l
      · subst e
        rw [Heap.set_same] at hg
        injection hg with hg; subst hg
        exact ⟨tmps, World.putObj_heap_same hl3lt, hsz, fun t => (hvals t).evol ev⟩
      · rw [Heap.set_ne _ _ e] at hg
        exact (r3.heap g o hg).stays st3 (World.putObj_heap_other e)
    cases e with
    | normal =>
      obtain ⟨H', e1, ev, hr⟩ := fin rec
      have := run_endRound (P := P) none hb3
      have he : ({ { { rec with tmps := tmps } with state := .busy } with state := if (none : Option Code).isNone then .ready else .done, pending := none } : Loop) = { rec with tmps := tmps } := by rw [hrec]; rfl
      rw [he] at this
      exact ⟨_, _, this, H', ev, hr, tt, .lit _, .inl ⟨rfl, H3, q3, hl3, e1⟩⟩
    | ret =>
      obtain ⟨H', e1, ev, hr⟩ := fin { rec with state := .done, pending := some .ret }
      exact ⟨_, _, run_endRound (some .ret) hb3, H', ev, hr, ff, .lit _, .inr ⟨rfl, H3, .ret, .inl ⟨rfl, q3⟩, hl3, e1⟩⟩
    | exit id =>
      obtain ⟨H', e1, ev, hr⟩ := fin { rec with state := .done, pending := some (.exit id) }
      exact ⟨_, _, run_endRound (some (.exit id)) hb3, H', ev, hr, ff, .lit _, .inr ⟨rfl, H3, .exit id, .inr (.inl ⟨id, rfl, q3⟩), hl3, e1⟩⟩
    | goto t =>
      obtain ⟨H', e1, ev, hr⟩ := fin { rec with state := .done, pending := some (.goto t) }
      exact ⟨_, _, run_endRound (some (.goto t)) hb3, H', ev, hr, ff, .lit _, .inr ⟨rfl, H3, .goto t, .inr (.inr ⟨t, rfl, q3⟩), hl3, e1⟩⟩
    | panic ch => exact q3.elim
    | outgrown => exact q3.elim
  | exit id => exact q1.elim
  | goto l => exact q1.elim
  | ret => exact q1.elim
  | panic ch => exact q1.elim
  | outgrown => exact q1.elim

/-- the loop, once its record is laid -/
theorem range_core {ps : Array Tmp} {assign body : Code} {l fnid d : Nat} {gf : FuncId} {cap : List AV} {lb : List Value} {seq : List (List AV)} {H0 : Heap} {I : Nat → Heap → Prop} (hps : ∀ p ∈ ps.toList, Nat.blt p N = true)
    (hseq : TSeq P gf cap H0 seq) (hlen : ∀ args ∈ seq, args.length = ps.size) (hI0 : ∀ k H, I k H → H0.le H) (h0 : I 0 H)
    (round : ∀ k args H', seq[k]? = some args → I k H' → WpC P N assign (env.putL ps.toList args) H' (thenQ (fun env' H'' => WpC P N body env' H'' (rangeQ (I (k + 1)) Q env)) (fun _ _ _ => False)))
    (done : ∀ H', I seq.length H' → Q .normal env H')
    {fr : Fr} {a : Act} {w w1 : World} {n : Nat} (hw : w.heap.size ≤ l) (hl : H l = none) (hnew : Evol H w H w1) (rec : Loop) (hrec : rec = { state := .ready, pending := none, fn := fnid, tmps := #[], params := ps, assign := assign, body := body, defers := d })
    (hb : w1.heap[l]? = some (.loop { rec with tmps := a.tmps })) (r : Rel fr N env H a w1) (hm : ∀ d ∈ a.defers, d.target ≠ .collected l) (ho : fr.round ≠ some l) (hcap : VRs w1 H.dom cap lb) :
    CallsIn (fen fr.round) (n - 1) P gf (#[.func (.yield l) #[] #[]] ++ lb.toArray) w1 (rangePost (fen fr.round) n P l (Post fr N H w Q) a) := by
  have hh1 : HeapR w1 (H.set l (.loop N env rec)) := r.heap.loop hl hb r.size r.vals
  have nc1 : NonCells w1 l := ⟨_, hb, rfl⟩
  have st1 : Stays w1 H.dom w1 (H.set l (.loop N env rec)).dom := ⟨Nat.le_refl _, fun g hg hn => by
    by_cases e : g = l
    · subst e; exact .inl nc1
    · exact .inr ⟨rfl, fun hd => by rcases (dom_set).1 hd with h1 | h1; exact e h1; exact hn h1⟩⟩
  have hv1 : VRs w1 (H.set l (.loop N env rec)).dom (.clo (.yield l) [] [] :: cap) (.func (.yield l) #[] #[] :: lb) :=
    VRs.cons (.clo [] [] rfl (fun k x u hx => by simp at hx) rfl (fun k x u hx => by simp at hx)) (hcap.stays st1)
  have tc := hseq l (fun k Hp => ∃ Hb, I k Hb ∧ Hb l = none ∧ Hp = Hb.set l (.loop N env rec))
    (fun Hp => ∃ Hb c, stopQ Q env c Hb ∧ Hb l = none ∧ Hp = Hb.set l (.loop N env { rec with state := .done, pending := some c }))
    (fun k Hp ⟨Hb, h1, h2, h3⟩ => by subst h3; exact Heap.le_trans (hI0 k Hb h1) (Heap.set_drop h2 _))
    (fun k args Hp hk ⟨Hb, h1, h2, h3⟩ => by
      subst h3
      exact range_yield (fnid := fnid) (d := d) hps (hlen args (List.mem_of_getElem? hk)) (fun H' hi => round k args H' hk hi) h2 h1 rec hrec)
    _ ⟨H, h0, hl, rfl⟩
  have hc := calls_fen fr.round (n - 1) (tc _ w1 hv1 hh1)
  have harr : (#[.func (.yield l) #[] #[]] ++ lb.toArray : Array Value) = (.func (.yield l) #[] #[] :: lb).toArray := by simp
  rw [harr]
  refine hc.mono fun e w' ⟨H', ev, hr, q⟩ => ?_
  cases e with
  | panicked ch => exact q.elim
  | outgrown => exact q.elim
  | returned u =>
    obtain ⟨v, _, q⟩ := q
    -- the record, whatever it became, is shut
    have fin : ∀ (Hb : Heap) (rec' : Loop), rec'.state ≠ .busy → Hb l = none → H' = Hb.set l (.loop N env rec') → ∃ w4, (Instr.endLoop l).run P w' = .ok rec'.pending w4 ∧ Evol H w Hb w4 ∧ Rel fr N env Hb a w4 := by
      intro Hb rec' hst hbl e'
      subst e'
      obtain ⟨tmps', hb', _, _⟩ := hr l _ (Heap.set_same _ _ _)
      have hend := run_endLoop (P := P) hb' hst
      refine ⟨_, hend, ?_⟩
      have evx : EvolX l H w1 Hb (w'.putObj l (.loop { { rec' with tmps := tmps' } with state := .exhausted })) := by
        refine ⟨ev.os, ev.tape, ev.output, by simpa using ev.size, fun g hg hn hne => ?_, fun g hd => ?_⟩
        · exact (World.putObj_heap_other hne).trans (ev.keep g hg (fun hd => by rcases (dom_set).1 hd with h1 | h1; exact hne h1; exact hn h1))
        · have hne : g ≠ l := fun e => by subst e; obtain ⟨o, ho, _⟩ := hd; rw [hbl] at ho; cases ho
          rcases ev.dom g ((dom_set).2 (.inr hd)) with h1 | h1
          · exact .inl (((dom_set).1 h1).resolve_left hne)
          · exact .inr h1
      have hr4 : HeapR (w'.putObj l (.loop { { rec' with tmps := tmps' } with state := .exhausted })) Hb := fun g o hg => by
        have hne : g ≠ l := fun e => by subst e; rw [hbl] at hg; cases hg
        refine (hr g o (by rw [Heap.set_ne _ _ hne]; exact hg)).stays ⟨by simp, fun k hk hn => .inr ⟨World.putObj_heap_other (fun e => hn ((dom_set).2 (.inl e))), fun hd => hn ((dom_set).2 (.inr hd))⟩⟩ (World.putObj_heap_other hne)
      refine ⟨⟨evx.os.trans hnew.os, evx.tape.trans hnew.tape, evx.output.trans hnew.output, Nat.le_trans hnew.size evx.size, fun g hg hn => ?_, fun g hd => ?_⟩, r.x evx nc1 hr4 hm ho⟩
      · exact (evx.keep g (Nat.lt_of_lt_of_le hg hnew.size) hn (by omega)).trans (hnew.keep g hg hn)
      · exact (evx.dom g hd).imp id (fun h => Nat.le_trans hnew.size h)
    rcases q with ⟨Hb, h1, h2, h3⟩ | ⟨Hb, c, h1, h2, h3⟩
    · obtain ⟨w4, k1, k2, k3⟩ := fin Hb rec (by rw [hrec]; simp) h2 h3
      rw [show rec.pending = none by rw [hrec]] at k1
      exact ⟨none, w4, k1, env, Hb, k2, k3, done Hb h1⟩
    · obtain ⟨w4, k1, k2, k3⟩ := fin Hb _ (by simp) h2 h3
      refine ⟨some c, w4, k1, ?_⟩
      rcases h1 with ⟨rfl, hq⟩ | ⟨id, rfl, hq⟩ | ⟨t, rfl, hq⟩
      · exact wpIn_ret ⟨env, Hb, k2, k3, hq⟩
      · exact wpIn_exit ⟨env, Hb, k2, k3, hq⟩
      · exact wpIn_goto ⟨env, Hb, k2, k3, hq⟩

/-- **a range over a function** -/
theorem WpC.range {g : Operand} {ps : Array Tmp} {assign body : Code} {gf : FuncId} {cap : List AV} {seq : List (List AV)} {H0 : Heap} (I : Nat → Heap → Prop) (hg : env.ev g = .clo (.func gf) [] cap) (he : enterable P gf = true)
    (hps : ∀ p ∈ ps.toList, Nat.blt p N = true) (hseq : TSeq P gf cap H0 seq) (hlen : ∀ args ∈ seq, args.length = ps.size) (hI0 : ∀ k H, I k H → H0.le H) (h0 : I 0 H)
    (round : ∀ k args H', seq[k]? = some args → I k H' → WpC P N assign (env.putL ps.toList args) H' (thenQ (fun env' H'' => WpC P N body env' H'' (rangeQ (I (k + 1)) Q env)) (fun _ _ _ => False)))
    (done : ∀ H', I seq.length H' → Q .normal env H') (hq : quietN N = false := by rfl) : WpC P N (.rangeFunc g ps assign body) env H Q := fun fr n a w r => by
  refine wpIn_rangeFunc ?_
  intro fn hfn
  have hv := r.ev g
  rw [hg] at hv
  obtain ⟨us0, lb, e0, g1, g2⟩ := hv.clo_inv
  obtain rfl := g1.nil_inv
  have hres : ∀ (l : Nat) (w1 : World), (resolve a.eval (rangeCall g l) 0).run P w1 = .ok { target := .fn (.func gf) lb.toArray, args := #[.func (.yield l) #[] #[]] } w1 := fun l w1 => by
    simp only [resolve, e0]
    simp [go_sem]
  have hinv : ∀ (l : Nat) (w1 : World), (invoke (.fn (.func gf) lb.toArray) #[.func (.yield l) #[] #[]]).run P w1 = .ok (.enter gf (#[.func (.yield l) #[] #[]] ++ lb.toArray)) w1 := fun l w1 => by
    simp [invoke, go_sem, enterable.run he]
  obtain ⟨rd, b, tl⟩ := fr
  cases rd with
  | none =>
    let rec0 : Loop := { state := .ready, pending := none, fn := fn, tmps := #[], params := ps, assign := assign, body := body, defers := w.heap.size }
    have ev1 : Evol H w H (w.alloc (.deferred (some []))) := Evol.allocN _
    have ev2 : Evol H (w.alloc (.deferred (some []))) H ((w.alloc (.deferred (some []))).alloc (.loop { rec0 with tmps := a.tmps })) := Evol.allocN _
    have ev := ev1.trans ev2
    have hh := (r.heap.evolN ev1 (fun g o ho => heap_alloc_old w _ (r.heap g o ho).lt)).evolN ev2 (fun g o ho => heap_alloc_old _ _ (by have := (r.heap g o ho).lt; simp; omega))
    have hD : ((w.alloc (.deferred (some []))).alloc (.loop { rec0 with tmps := a.tmps })).heap[w.heap.size]? = some (.deferred (some [])) := (heap_alloc_old _ _ (by simp)).trans (World.alloc_heap_new w _)
    have hL : ((w.alloc (.deferred (some []))).alloc (.loop { rec0 with tmps := a.tmps })).heap[w.heap.size + 1]? = some (.loop { rec0 with tmps := a.tmps }) := by
      have := World.alloc_heap_new (w.alloc (.deferred (some []))) (.loop { rec0 with tmps := a.tmps })
      rwa [World.size_alloc] at this
    have r1 := r.evol ev hh
    have hnD : ¬ H.dom w.heap.size := fun ⟨o, ho, _⟩ => by have := (r.heap _ o ho).lt; omega
    have hne : ∀ d ∈ a.defers, d.target ≠ .collected w.heap.size ∧ d.target ≠ .collected (w.heap.size + 1) := fun d hd => by
      have hn : ∀ g, w.heap.size ≤ g → w.heap[g]? ≠ some (.deferred (some [])) := fun g hg => by rw [Array.getElem?_eq_none hg]; simp
      exact ⟨r.marks.far (hn _ (Nat.le_refl _)) d hd, r.marks.far (hn _ (Nat.le_succ _)) d hd⟩
    have r2 : Rel ⟨none, b, tl⟩ N env H { a with defers := { target := .collected w.heap.size, args := #[] } :: a.defers } ((w.alloc (.deferred (some []))).alloc (.loop { rec0 with tmps := a.tmps })) := by
      obtain ⟨mt, ms, me, m1, m2⟩ := r1.marks
      refine ⟨r1.size, r1.vals, r1.heap, r1.base, ⟨mt, { target := .collected w.heap.size, args := #[] } :: ms, by rw [me]; rfl, fun d hd => ?_, ?_⟩, r1.round, fun hq2 => by rw [hq] at hq2; cases hq2⟩
      · rcases List.mem_cons.1 hd with rfl | hd
        · exact ⟨_, rfl, r.base, hD, hnD⟩
        · exact m1 d hd
      · exact List.pairwise_cons.2 ⟨fun d hd e => (hne d (by rw [me]; simp [hd])).1 e.symm, m2⟩
    refine ⟨w.heap.size + 1, [{ target := .collected w.heap.size, args := #[] }], _, _, _, gf, _, _, run_enterLoop_outer _ _ _ _ _, hres _ _, fun _ _ => trivial, hinv _ _, fun hh => by simp [fen, Fence.wide] at hh, ?_⟩
    exact range_core (fnid := fn) (d := w.heap.size) hps hseq hlen hI0 h0 round done (Nat.le_succ _) (r.heap.fresh (Nat.le_succ _)) ev rec0 rfl hL r2
      (fun d hd => by
        rcases List.mem_cons.1 hd with rfl | hd
        · intro e; injection e with e; omega
        · exact (hne d hd).2) (by simp) (g2.evol ev)
  | some l0 =>
    obtain ⟨k1, rc, k2⟩ := r.round l0 rfl
    let rec0 : Loop := { state := .ready, pending := none, fn := fn, tmps := #[], params := ps, assign := assign, body := body, defers := rc.defers }
    have ev : Evol H w H (w.alloc (.loop { rec0 with tmps := a.tmps })) := Evol.allocN _
    have hh := r.heap.evolN ev (fun g o ho => heap_alloc_old w _ (r.heap g o ho).lt)
    have hL : (w.alloc (.loop { rec0 with tmps := a.tmps })).heap[w.heap.size]? = some (.loop { rec0 with tmps := a.tmps }) := World.alloc_heap_new w _
    have hlt0 := (Array.getElem?_eq_some_iff.1 k2).1
    refine ⟨w.heap.size, [], _, _, _, gf, _, _, run_enterLoop_inner k2 _ _ _ _ _, hres _ _, fun _ _ => trivial, hinv _ _, fun hh => by simp [fen, Fence.wide] at hh, ?_⟩
    exact range_core (fnid := fn) (d := rc.defers) hps hseq hlen hI0 h0 round done (Nat.le_refl _) (r.heap.fresh (Nat.le_refl _)) ev rec0 rfl hL (r.evol ev hh)
      (fun d hd => by
        exact r.marks.far (by rw [Array.getElem?_eq_none (Nat.le_refl _)]; simp) d hd) (by intro e; injection e with e; omega) (g2.evol ev)
end range
end Go.Vc
