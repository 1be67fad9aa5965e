/-
  More rules for printed walks: ranges over functions as plain folds; calls that make one thing, or take one up; builders.
-/
import Derived.Test.YtffgaoehhmgbjaaDoorTyz
import Derived.Test.YtffgaoehhmgbjaaDoorBl
import Derived.Scope
import Derived.AtR
set_option linter.unusedVariables false
set_option linter.unusedSimpArgs false
namespace Go.Vc
open Go

theorem own_set {α : Type} (f : α → List AV) (l : List α) (n : Nat) (y : α) (p : Option (Nat × Nat)) : AV.own (l.map f).length p = .own ((l.set n y).map f).length p := by simp
def Heap.one (g : Nat) (o : AObj) : Heap := fun k => if k = g then some o else none
theorem Heap.one_at (g : Nat) (o : AObj) : Heap.one g o g = some o := by simp [Heap.one]
theorem Heap.one_le {H : Heap} {g : Nat} {o : AObj} (h : H g = some o) : (Heap.one g o).le H := fun k x hk => by
  unfold Heap.one at hk
  split at hk
  · rename_i e; subst e; injection hk with hk; subst hk; exact h
  · cases hk

section
variable {P : Program} {N : Nat} {env : Env} {H H0 : Heap} {Q : QC} {rs : List Res}
/-- a range over a function, as a fold -/
theorem WpC.rangeS {σ ρ α η : Type} {g : Operand} {ps : Array Tmp} {assign body : Code} {gf : FuncId} {cap : List AV} {Hs : Heap} (f : σ → α → Option (Sh.Step σ ρ)) (l : List α) (enc : α → List AV) (R : σ → η → List Res) (o : σ ⊕ ρ) (s0 : σ) (a0 : η) (h : Sh.foldS f l s0 = some o)
    (hg : env.ev g = .clo (.func gf) [] cap) (he : enterable P gf = true) (hps : ∀ p ∈ ps.toList, Nat.blt p N = true) (hseq : TSeq P gf cap Hs (l.map enc)) (hlen : ∀ x, (enc x).length = ps.size) (hs : ∀ s a H, Holds H0 (R s a) H → Hs.le H) (hj : Holds H0 (R s0 a0) H)
    (round : ∀ x s a st H, f s x = some st → (∀ y, st = .done y → Sum.inr y = o) → Holds H0 (R s a) H → WpC P N assign (env.putL ps.toList (enc x)) H (thenQ (fun env' H'' => WpC P N body env' H'' (rangeQ (fun H' => ∃ s' a', st = .next s' ∧ Holds H0 (R s' a') H') Q env)) (fun _ _ _ => False)))
    (done : ∀ s a H, o = .inl s → Holds H0 (R s a) H → Q .normal env H) (hq : quietN N = false := by rfl) : WpC P N (.rangeFunc g ps assign body) env H Q := by
  refine WpC.range (H0 := Hs) (fun k H' => ∃ s a, Sh.foldS f (l.drop k) s = some o ∧ Holds H0 (R s a) H') hg he hps hseq (fun args ha => ?_) (fun k H' ⟨s, a, _, hh⟩ => hs s a H' hh) ⟨s0, a0, by simpa using h, hj⟩ ?_ ?_ hq
  · obtain ⟨x, _, rfl⟩ := List.mem_map.1 ha
    exact hlen x
  · rintro k args H' hk ⟨s, a, hf, hh⟩
    rw [List.getElem?_map] at hk
    obtain ⟨x, hx, rfl⟩ := Option.map_eq_some_iff.1 hk
    obtain ⟨hlt, hx'⟩ := List.getElem?_eq_some_iff.1 hx
    have hd : l.drop k = x :: l.drop (k + 1) := by rw [List.drop_eq_getElem_cons hlt, hx']
    rw [hd] at hf
    cases hfx : f s x with
    | none => simp only [Sh.foldS, hfx] at hf; cases hf
    | some st =>
      refine (round x s a st H' hfx (fun y hy => ?_) hh).mono ?_
      · subst hy
        simp only [Sh.foldS, hfx, Option.some.injEq] at hf
        exact hf
      · intro e env1 H1 q
        cases e with
        | normal =>
          refine WpC.mono (show WpC P N body env1 H1 _ from q) ?_
          intro e env2 H2 q
          cases e with
          | normal =>
            obtain ⟨s', a', rfl, h3⟩ := q
            rw [Sh.foldS_next hfx] at hf
            exact ⟨s', a', hf, h3⟩
          | exit id => exact q
          | goto l => exact q
          | ret => exact q
          | panic ch => exact q
          | outgrown => exact q
        | exit id => exact q
        | goto l => exact q
        | ret => exact q
        | panic ch => exact q
        | outgrown => exact q
  · rintro H' ⟨s, a, hf, hh⟩
    rw [List.length_map, List.drop_length] at hf
    injection hf with hf
    exact done s a H' hf.symm hh
end
section
variable {P : Program} {o : Oper} {env : Env} {H H0 : Heap} {K : AV → Heap → Prop} {E : List PanicEntry → Heap → Prop} {rs : List Res}
/-- a call that makes one thing -/
theorem WpO.callN {f : FuncId} {args : Array Operand} {ts : Array TypeId} {xs : List AV} {t : Nat} {cs : List AV} {V : Nat → AV} (ho : o.op = .call { callee := .value (.func f), args := args, argTypes := ts }) (he : enterable P f = true) (hx : forceL (args.toList.map env.ev) some = some xs) (hh : Holds H0 rs H)
    (h : ∀ H, TCall P f xs H (fun v H' => ∃ g, H g = none ∧ v = V g ∧ H' = H.set g (.cells t cs)) noE) (hk : ∀ g H', Holds H0 (.cell g t cs :: rs) H' → K (V g) H') : WpO P o env H K E := by
  refine WpO.call ho he hx ((h H).mono ?_ (fun _ _ h => h.elim))
  rintro _ _ ⟨g, hg, rfl, rfl⟩
  exact hk g _ (hh.new hg)
/-- a call that takes one thing up -/
theorem WpO.callT0 {f : FuncId} {args : Array Operand} {ts : Array TypeId} {xs : List AV} {i : Nat} {r : Res} {v : AV} (ho : o.op = .call { callee := .value (.func f), args := args, argTypes := ts }) (he : enterable P f = true) (hx : forceL (args.toList.map env.ev) some = some xs) (hh : Holds H0 rs H) (hi : rs[i]? = some r)
    (h : ∀ H1, Holds H1 [r] H → TCall P f xs H (fun u H' => u = v ∧ H' = H1) noE) (hk : ∀ H', Holds H0 (rs.eraseIdx i) H' → K v H') : WpO P o env H K E := by
  obtain ⟨H1, k1, k2, k3, k4⟩ := hh.at_ hi
  refine WpO.call ho he hx ((h H1 (.one k1)).mono ?_ (fun _ _ h => h.elim))
  rintro _ H' ⟨rfl, rfl⟩
  exact hk H' k3
theorem Holds.bld_new {g t : Nat} (et : Nat) (h : Holds H0 (.cell g t [.lit (.pointer none), .own 0 none] :: rs) H) : Holds H0 (.bld g t et [] :: rs) H := by
  obtain ⟨H1, h1, h2⟩ := h
  exact ⟨H1, h1, none, .lit (.pointer none), H1, Own.nil rfl, h2, .inl rfl, fun h => (h rfl).elim⟩
end
/-- a variable that is only read: some int -/
def GlobI (g : Nat) (H : Heap) : Prop := ∃ m, H g = some (.ro [.int .i64 m])
theorem GlobI.le {g : Nat} {H H' : Heap} (h : GlobI g H) (hl : H.le H') : GlobI g H' := by obtain ⟨m, hm⟩ := h; exact ⟨m, hl _ _ hm⟩
theorem GlobI.up {g : Nat} {H H0 : Heap} {rs : List Res} (h : GlobI g H0) (hH : Holds H0 rs H) : GlobI g H := h.le hH.le
theorem ro_held {H H0 : Heap} {g t k : Nat} {cs : List AV} {vs : List Value} (hH : Holds H0 [.cell g t cs] H) (h : H k = some (.ro vs)) : H0 k = some (.ro vs) := by
  obtain ⟨_, rfl, h0, rfl⟩ := hH
  by_cases e : k = g
  · subst e; rw [Heap.set_same] at h; cases h
  · rw [Heap.set_ne _ _ e] at h; exact h
theorem GlobI.held {G : Nat} {H H0 : Heap} {g t : Nat} {cs : List AV} (h : GlobI G H) (hH : Holds H0 [.cell g t cs] H) : GlobI G H0 := by obtain ⟨m, hm⟩ := h; exact ⟨m, ro_held hH hm⟩
theorem TYield.mono {P : Program} {l : Nat} {args : List AV} {H : Heap} {K K' : AV → Heap → Prop} (h : TYield P l args H K) (hk : ∀ v H', K v H' → K' v H') : TYield P l args H K' := fun us w hv hh => by
  obtain ⟨fn, tmps, assign, body, h1, h2⟩ := h us w hv hh
  refine ⟨fn, tmps, assign, body, h1, fun n => (h2 n).mono ?_⟩
  rintro e w' ⟨H', ev, hr, q⟩
  refine ⟨H', ev, hr, ?_⟩
  cases e with
  | returned u => obtain ⟨v, h3, h4⟩ := q; exact ⟨v, h3, hk v H' h4⟩
  | panicked ch => exact q
  | outgrown => exact q

/-! ### a scope that nothing jumps into -/
theorem stepR_scope {P : Program} {b : Frame} {a : Act} {k : List Item} {cs : List Frame} {w : World} {c : Code} : step P (lone (b.atR a (.code (.scope c) :: k)) cs w) = .next (lone (b.atR a (.code c :: .inScope c :: k)) cs w) :=
  step_lone_go (by simp [stepG, stepG.exec, Frame.atR])
theorem stepR_inScope {P : Program} {b : Frame} {a : Act} {k : List Item} {cs : List Frame} {w : World} {c : Code} : step P (lone (b.atR a (.inScope c :: k)) cs w) = .next (lone (b.atR a k) cs w) :=
  step_lone_go (by simp [stepG, stepG.exec, Frame.atR])
theorem wpIn_scope {F : Fence} {n : Nat} {P : Program} {Q : Exit → Act → World → Prop} {a : Act} {w : World} {c : Code} (h : c.wpIn F n P (Exit.noGoto Q) a w) : (Code.scope c).wpIn F n P Q a w := by
  intro b k cs hro hb hr
  have h0 : (lone (b.atR a (.code (.scope c) :: k)) cs w).fenced P F := fenced_calm hb hr rfl
  obtain ⟨e, a₁, w₁, hq, harr⟩ := h b (.inScope c :: k) cs hro hb hr
  cases e with
  | normal => exact ⟨.normal, a₁, w₁, hq, .head h0 stepR_scope (StepsIn.trans harr (.one (fenced_calm hb hr rfl) stepR_inScope))⟩
  | exit id =>
    have hx : exitTo id (.inScope c :: k) = exitTo id k := by simp [exitTo]
    exact ⟨_, a₁, w₁, hq, fun k' hk => .head h0 stepR_scope (harr.1 k' (by rw [hx]; exact hk)),
      fun hr' hk => let ⟨k₁, h1, h2⟩ := harr.2 hr' (by rw [hx]; exact hk); ⟨k₁, h1, .head h0 stepR_scope h2⟩⟩
  | goto l => exact hq.elim
  | ret => exact ⟨_, a₁, w₁, hq, .of_steps (.one h0 stepR_scope) harr⟩
  | panic ch => exact ⟨_, a₁, w₁, hq, .of_steps (.one h0 stepR_scope) harr⟩
  | outgrown => exact ⟨_, a₁, w₁, hq, .of_steps (.one h0 stepR_scope) harr⟩
def noGotoQ (Q : QC) : QC
  | .goto _, _, _ => False
  | e, env, H => Q e env H
theorem WpC.scope {P : Program} {N : Nat} {env : Env} {H : Heap} {Q : QC} {c : Code} (h : WpC P N c env H (noGotoQ Q)) : WpC P N (.scope c) env H Q := fun fr n a w r =>
  wpIn_scope (wpIn_mono (h fr n a w r) fun e a' w' ⟨env', H', ev, r', q⟩ => by
    cases e with
    | goto l => exact q.elim
    | normal => exact ⟨env', H', ev, r', q⟩
    | exit id => exact ⟨env', H', ev, r', q⟩
    | ret => exact ⟨env', H', ev, r', q⟩
    | panic ch => exact ⟨env', H', ev, r', q⟩
    | outgrown => exact ⟨env', H', ev, r', q⟩)
theorem WpC.label {P : Program} {N : Nat} {env : Env} {H : Heap} {Q : QC} {l : Nat} (h : Q .normal env H) : WpC P N (.label l) env H Q := fun fr n a w r =>
  wpIn_label ⟨env, H, Evol.refl _ _, r, h⟩
/-- what is only read of a heap -/
def Heap.ro (H : Heap) : Heap := fun g => match H g with
  | some (.ro vs) => some (.ro vs)
  | _ => none
theorem Heap.ro_le (H : Heap) : H.ro.le H := fun g o h => by
  unfold Heap.ro at h
  split at h
  · rename_i vs hv; rw [hv]; exact h
  · cases h
theorem Heap.ro_dom (H : Heap) (g : Nat) : ¬ H.ro.dom g := fun ⟨o, h, h1⟩ => by
  unfold Heap.ro at h
  split at h
  · injection h with h; subst h; cases h1
  · cases h
theorem Heap.ro_get {H : Heap} {g : Nat} {vs : List Value} (h : H g = some (.ro vs)) : H.ro g = some (.ro vs) := by unfold Heap.ro; rw [h]
theorem Heap.ro_set {H : Heap} {g : Nat} {o : AObj} (ho : o.ownd = true) (hg : H g = none) : (H.set g o).ro = H.ro := by
  funext k
  unfold Heap.ro
  by_cases e : k = g
  · subst e
    rw [Heap.set_same, hg]
    cases o <;> first | rfl | cases ho
  · rw [Heap.set_ne _ _ e]
theorem GlobI.ro {g : Nat} {H : Heap} (h : GlobI g H) : GlobI g H.ro := by obtain ⟨m, hm⟩ := h; exact ⟨m, Heap.ro_get hm⟩
end Go.Vc
