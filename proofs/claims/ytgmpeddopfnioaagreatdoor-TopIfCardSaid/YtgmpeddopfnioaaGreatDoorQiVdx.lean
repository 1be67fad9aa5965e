/-
  Part of the proof of If.
-/
import Derived.Test.YtgmpeddopfnioaaGreatDoorQiVpm
import Derived.Laws.StructEq

set_option linter.unusedVariables false
set_option linter.unusedSimpArgs false
namespace Go.Vc
open Go
inductive Cls where
 | I | S | E
 deriving DecidableEq, Inhabited
section draw
variable {P : Program} {N : Nat} {ops : Array Oper} {Q : QC} {Inv : Heap → Prop}
def ExactG (P : Program) (ops : Array Oper) (o : Oper) (env : Env) (H : Heap) (v : AV) : Prop :=
 (guardOf ops env o = some true ∧ Exact P o env H v) ∨ (guardOf ops env o = some false ∧ v = .lit undef)
def panQ (Q : QC) : List PanicEntry → Heap → Prop := fun ch H' => ∀ env', Q (.panic ch) env' H'
def WpPi (P : Program) (N : Nat) (ops : Array Oper) (Inv : Heap → Prop) (Q : QC) (cls : Nat → Cls) : List Nat → Env → Heap → Prop
 | [], env, H => Q .normal env H
 | i :: r, env, H => ∃ o, ops[i]? = some o ∧ dstOk N o = true ∧ (match cls i with
  | .I => ∃ v, (∀ H', Inv H' → ExactG P ops o env H' v) ∧ WpPi P N ops Inv Q cls r (env.put o.dst v) H
  | .S => ∃ v, ExactG P ops o env H v ∧ WpPi P N ops Inv Q cls r (env.put o.dst v) H
  | .E => (guardOf ops env o = some true ∧ WpO P o env H (fun v H' => Inv H' ∧ WpPi P N ops Inv Q cls r (env.put o.dst v) H') (panQ Q)) ∨ (guardOf ops env o = some false ∧ WpPi P N ops Inv Q cls r (env.put o.dst (.lit undef)) H))
def agree (env env' : Env) (l : List Tmp) : Prop := ∀ t ∈ l, env t = env' t
theorem agree.symm {env env' : Env} {l : List Tmp} (h : agree env env' l) : agree env' env l := fun t ht => (h t ht).symm
theorem OpR.agree {o : Oper} {env env' : Env} {H : Heap} {a : Act} {w : World} (h : agree env env' (o.looksAt ops)) (r : OpR o env' H a w) : OpR o env H a w := by
 refine ⟨fun x hx => ?_, r.2⟩
 have := r.1 x hx
 cases x with
 | tmp t =>
  have ht : t ∈ o.looksAt ops := List.mem_append.2 (.inl (List.mem_filterMap.2 ⟨.tmp t, by simpa using hx, rfl⟩))
  show VR w H.dom (env t) _
  rw [h t ht]; exact this
 | const v => exact this
 | global g => exact this
 | func f => exact this
theorem guardOf_agree {o : Oper} {env env' : Env} (h : agree env env' (o.looksAt ops)) : guardOf ops env o = guardOf ops env' o := by
 unfold guardOf
 cases hg : o.guard with
 | none => rfl
 | some p =>
  obtain ⟨j, want⟩ := p
  simp only
  cases hd : (ops[j]?).bind (·.dst) with
  | none => rfl
  | some d =>
   have : d ∈ o.looksAt ops := List.mem_append.2 (.inr (by rw [hg]; simp [hd]))
   simp only
   rw [h d this]
theorem WpO.agree {o : Oper} {env env' : Env} {H : Heap} {K : AV → Heap → Prop} {E : List PanicEntry → Heap → Prop} (h : Go.Vc.agree env env' (o.looksAt ops)) (k : WpO P o env H K E) : WpO P o env' H K E :=
 fun rd n a w r => k rd n a w (r.agree h)
theorem ExactG.agree {o : Oper} {env env' : Env} {H : Heap} {v : AV} (h : Go.Vc.agree env env' (o.looksAt ops)) (k : ExactG P ops o env H v) : ExactG P ops o env' H v := by
 unfold ExactG at *
 rw [← guardOf_agree h]
 exact k.imp (fun ⟨a, b⟩ => ⟨a, b.agree h⟩) id
theorem put_agree {x y : Oper} (h : ∀ d, x.dst = some d → d ∉ y.looksAt ops) (env : Env) (v : AV) : agree env (env.put x.dst v) (y.looksAt ops) := fun t ht => by
 cases hd : x.dst with
 | none => rfl
 | some d =>
  have : t ≠ d := fun e => h d hd (e ▸ ht)
  simp [Env.put, this]
theorem put_comm {x y : Oper} (h : ∀ d, x.dst = some d → y.dst ≠ some d) (env : Env) (v u : AV) : (env.put x.dst v).put y.dst u = (env.put y.dst u).put x.dst v := by
 cases hx : x.dst with
 | none => rfl
 | some d =>
  cases hy : y.dst with
  | none => rfl
  | some e =>
   have : e ≠ d := fun q => h d hx (by rw [hy, q])
   funext t
   simp only [Env.put]
   by_cases h1 : t = d
   ·subst h1; simp [Ne.symm this]
   ·simp [h1]
def freeOf (ops : Array Oper) (cls : Nat → Cls) (i k : Nat) : Prop := ∀ oi ok, ops[i]? = some oi → ops[k]? = some ok → ok.apart ops oi = true ∧ cls k ≠ .E ∧ (cls i = .E → cls k = .I)
theorem WpPi.first {cls : Nat → Cls} {i : Nat} {oi : Oper} (hi : ops[i]? = some oi) : ∀ (pre post : List Nat) (env : Env) (H : Heap), Inv H → (∀ k ∈ pre, freeOf ops cls i k) → WpPi P N ops Inv Q cls (pre ++ i :: post) env H →
    dstOk N oi = true ∧ (match cls i with
    | .I => ∃ v, (∀ H', Inv H' → ExactG P ops oi env H' v) ∧ WpPi P N ops Inv Q cls (pre ++ post) (env.put oi.dst v) H
    | .S => ∃ v, ExactG P ops oi env H v ∧ WpPi P N ops Inv Q cls (pre ++ post) (env.put oi.dst v) H
    | .E => (guardOf ops env oi = some true ∧ WpO P oi env H (fun v H' => Inv H' ∧ WpPi P N ops Inv Q cls (pre ++ post) (env.put oi.dst v) H') (panQ Q)) ∨ (guardOf ops env oi = some false ∧ WpPi P N ops Inv Q cls (pre ++ post) (env.put oi.dst (.lit undef)) H))
  | [], post, env, H, hI, hf, h => by
    obtain ⟨o, ho, hd, h⟩ := h
    rw [hi] at ho; injection ho with ho; subst ho
    exact ⟨hd, h⟩
  | k :: pre, post, env, H, hI, hf, h => by
    obtain ⟨ok, hok, hdk, h⟩ := h
    obtain ⟨hap, hne, hE⟩ := hf k (by simp) oi ok hi hok
    obtain ⟨a1, a2, a3⟩ := Oper.apart_spec hap
    have ih := fun env hh => WpPi.first hi pre post env H hI (fun k hk => hf k (by simp [hk])) hh
    -- k's own step, at whichever heap
    have step : ∀ vk, ExactG P ops ok env H vk → (cls k = .I → ∀ H', Inv H' → ExactG P ops ok env H' vk) → WpPi P N ops Inv Q cls (pre ++ i :: post) (env.put ok.dst vk) H →
        dstOk N oi = true ∧ (match cls i with
        | .I => ∃ v, (∀ H', Inv H' → ExactG P ops oi env H' v) ∧ WpPi P N ops Inv Q cls (k :: pre ++ post) (env.put oi.dst v) H
        | .S => ∃ v, ExactG P ops oi env H v ∧ WpPi P N ops Inv Q cls (k :: pre ++ post) (env.put oi.dst v) H
        | .E => (guardOf ops env oi = some true ∧ WpO P oi env H (fun v H' => Inv H' ∧ WpPi P N ops Inv Q cls (k :: pre ++ post) (env.put oi.dst v) H') (panQ Q)) ∨ (guardOf ops env oi = some false ∧ WpPi P N ops Inv Q cls (k :: pre ++ post) (env.put oi.dst (.lit undef)) H)) := by
      intro vk hk hkI hr
      obtain ⟨hd, hr⟩ := ih _ hr
      refine ⟨hd, ?_⟩
      have back : ∀ (v : AV) (H' : Heap), (cls k = .I ∨ H' = H) → WpPi P N ops Inv Q cls (pre ++ post) ((env.put ok.dst vk).put oi.dst v) H' → WpPi P N ops Inv Q cls (k :: pre ++ post) (env.put oi.dst v) H' := by
        intro v H' hh hw
        refine ⟨ok, hok, hdk, ?_⟩
        rw [put_comm a2] at hw
        have ag := put_agree (ops := ops) (x := oi) (y := ok) a3 env v
        cases hc : cls k with
        | I => exact ⟨vk, fun H'' hi' => (hkI hc H'' hi').agree ag, hw⟩
        | S =>
          rcases hh with hh | hh
          · rw [hc] at hh; cases hh
          · subst hh; exact ⟨vk, hk.agree ag, hw⟩
        | E => exact (hne hc).elim
      have agi := (put_agree (ops := ops) (x := ok) (y := oi) a1 env vk).symm
      cases hci : cls i with
      | I => rw [hci] at hr; obtain ⟨v, h1, h2⟩ := hr; exact ⟨v, fun H' hi' => (h1 H' hi').agree agi, back v H (.inr rfl) h2⟩
      | S => rw [hci] at hr; obtain ⟨v, h1, h2⟩ := hr; exact ⟨v, h1.agree agi, back v H (.inr rfl) h2⟩
      | E =>
        rw [hci] at hr
        rcases hr with ⟨h1, h2⟩ | ⟨h1, h2⟩
        · exact .inl ⟨(guardOf_agree agi) ▸ h1, (h2.agree agi).mono (fun v H' hw => ⟨hw.1, back v H' (.inl (hE hci)) hw.2⟩) (fun _ _ h => h)⟩
        · exact .inr ⟨(guardOf_agree agi) ▸ h1, back _ H (.inr rfl) h2⟩
    cases hc : cls k with
    | I => rw [hc] at h; obtain ⟨vk, h1, h2⟩ := h; exact step vk (h1 H hI) (fun _ => h1) h2
    | S => rw [hc] at h; obtain ⟨vk, h1, h2⟩ := h; exact step vk h1 (fun e => by rw [hc] at e; cases e) h2
    | E => exact (hne hc).elim
structure Rem (ops : Array Oper) (cls : Nat → Cls) (anc : Nat → List Nat) (listed : Array Bool) (rem : List Nat) : Prop where
 size : listed.size = ops.size
 mem : ∀ i, i ∈ rem ↔ i < ops.size ∧ listed.getD i true = false
 nodup : rem.Nodup
 pair : rem.Pairwise fun k i => k ∈ anc i ∨ freeOf ops cls i k
 shut : ∀ k, k < ops.size → listed.getD k true = true → ∀ i ∈ anc k, listed.getD i true = true
 direct : ∀ i o, ops[i]? = some o → ∀ k ∈ anc i, (∃ e ∈ o.after, Region.binds .any e = true ∧ (e.on = k ∨ k ∈ anc e.on))
 ahead : ∀ pre i post, rem = pre ++ i :: post → ∀ o, ops[i]? = some o → ∀ e ∈ o.after, Region.binds .any e = true → e.on ∈ pre ∨ listed.getD e.on false = true
theorem getD_set (listed : Array Bool) (i k : Nat) (d : Bool) (hi : i < listed.size) : (listed.setIfInBounds i true).getD k d = if k = i then true else listed.getD k d := by
 simp only [Array.getD_eq_getD_getElem?, Array.getElem?_setIfInBounds]
 by_cases h : i = k
 ·subst h; simp [hi]
 ·have : ¬ k = i := fun e => h e.symm
  simp [h, this]
theorem mem_ready' {listed : Array Bool} {i : Nat} : i ∈ Region.ready .any ops listed ↔ ∃ o, ops[i]? = some o ∧ listed.getD i true = false ∧ ∀ e ∈ o.after, Region.binds .any e = true → listed.getD e.on false = true := by
 unfold Region.ready
 simp only [List.mem_filter, List.mem_range, Bool.and_eq_true, Bool.not_eq_true']
 constructor
 ·rintro ⟨hi, h1, h2⟩
  refine ⟨ops[i], Array.getElem?_eq_getElem hi, h1, ?_⟩
  rw [Array.getElem?_eq_getElem hi] at h2
  simp only [Option.map_some, Option.getD_some] at h2
  intro e he hb
  have := Array.all_eq_true'.1 h2 e he
  rw [hb] at this
  simpa using this
 ·rintro ⟨o, ho, h1, h2⟩
  have hi := (Array.getElem?_eq_some_iff.1 ho).1
  refine ⟨hi, h1, ?_⟩
  rw [ho]
  simp only [Option.map_some, Option.getD_some]
  rw [Array.all_eq_true']
  intro e he
  cases hb : Region.binds .any e with
  | false => rfl
  | true => simpa using h2 e he hb
theorem draw_main {cls : Nat → Cls} {anc : Nat → List Nat} : ∀ (fuel : Nat) (rem : List Nat) (listed : Array Bool) (env : Env) (H : Heap), rem.length ≤ fuel → Rem ops cls anc listed rem → Inv H → WpPi P N ops Inv Q cls rem env H → ∀ (fr : Fr) (m : Nat) a w, Rel fr N env H a w →
    ∀ Q' : Exit → Act → World → Prop, (∀ e a' w', Post fr N H w Q e a' w' → Q' e a' w') → wpAnyIn (fen fr.round) m P .any ops Q' fuel listed a w := by
  intro fuel
  -- nothing may come up: nothing is left
  have done : ∀ (rem : List Nat) (listed : Array Bool), Rem ops cls anc listed rem → Region.ready .any ops listed = [] → rem = [] := by
    intro rem listed hr h0
    cases rem with
    | nil => rfl
    | cons i r =>
      exfalso
      obtain ⟨hi, hl⟩ := (hr.mem i).1 (by simp)
      have : i ∈ Region.ready .any ops listed := mem_ready'.2 ⟨ops[i], Array.getElem?_eq_getElem hi, hl, fun e he hb => by
        rcases hr.ahead [] i r rfl _ (Array.getElem?_eq_getElem hi) e he hb with h | h
        · cases h
        · exact h⟩
      rw [h0] at this; cases this
  induction fuel with
  | zero =>
    intro rem listed env H hl hr hI h fr m a w r Q' hq
    have : rem = [] := List.eq_nil_of_length_eq_zero (by omega)
    subst this
    refine ⟨?_, hq _ _ _ ⟨env, H, .refl _ _, r, h⟩⟩
    apply List.eq_nil_iff_forall_not_mem.2
    intro i hi
    obtain ⟨o, ho, h1, _⟩ := mem_ready'.1 hi
    have := (hr.mem i).2 ⟨(Array.getElem?_eq_some_iff.1 ho).1, h1⟩
    cases this
  | succ fuel ih =>
    intro rem listed env H hl hr hI h fr m a w r Q' hq
    refine ⟨fun h0 => ?_, fun i hi => ?_⟩
    · have := done rem listed hr h0
      subst this
      exact hq _ _ _ ⟨env, H, .refl _ _, r, h⟩
    · obtain ⟨oi, hoi, h1, h2⟩ := mem_ready'.1 hi
      have hsz := (Array.getElem?_eq_some_iff.1 hoi).1
      have hmem : i ∈ rem := (hr.mem i).2 ⟨hsz, h1⟩
      obtain ⟨pre, post, hrem⟩ := List.append_of_mem hmem
      subst hrem
      -- what comes ahead of it does not bind it
      have hanc : ∀ k ∈ anc i, listed.getD k true = true := by
        intro k hk
        obtain ⟨e, he, hb, hk⟩ := hr.direct i oi hoi k hk
        have hle := h2 e he hb
        have hlt : e.on < listed.size := by
          rcases Nat.lt_or_ge e.on listed.size with h | h
          · exact h
          · simp [Array.getD_eq_getD_getElem?, Array.getElem?_eq_none h] at hle
        have hle' : listed.getD e.on true = true := by
          simp only [Array.getD_eq_getD_getElem?, Array.getElem?_eq_getElem hlt, Option.getD_some] at hle ⊢; exact hle
        rcases hk with hk | hk
        · rw [← hk]; exact hle'
        · exact hr.shut _ (by rw [← hr.size]; exact hlt) hle' k hk
      have hpre : ∀ k ∈ pre, freeOf ops cls i k := by
        intro k hk
        have hp := List.pairwise_append.1 hr.pair
        rcases hp.2.2 k hk i (by simp) with h | h
        · have := ((hr.mem k).1 (by simp [hk])).2
          rw [hanc k h] at this; cases this
        · exact h
      obtain ⟨hd, hw⟩ := WpPi.first hoi pre post env H hI hpre h
      have hnd := hr.nodup
      have hrem' : Rem ops cls anc (listed.setIfInBounds i true) (pre ++ post) := by
        refine ⟨by simp [hr.size], fun k => ?_, ?_, ?_, ?_, hr.direct, ?_⟩
        · rw [getD_set _ _ _ _ (by rw [hr.size]; exact hsz)]
          have hm := hr.mem k
          rw [List.mem_append, List.mem_cons] at hm
          rw [List.mem_append]
          have hni : i ∉ pre ∧ i ∉ post := by
            rw [List.nodup_append] at hnd
            obtain ⟨_, h5, h6⟩ := hnd
            rw [List.nodup_cons] at h5
            exact ⟨fun h => h6 i h i (by simp) rfl, h5.1⟩
          by_cases hki : k = i
          · subst hki; simp [hni.1, hni.2]
          · simp only [hki, if_false, false_or] at hm ⊢; exact hm
        · rw [List.nodup_append] at hnd ⊢
          obtain ⟨h4, h5, h6⟩ := hnd
          exact ⟨h4, (List.nodup_cons.1 h5).2, fun a ha b hb => h6 a ha b (by simp [hb])⟩
        · have hp := List.pairwise_append.1 hr.pair
          exact List.pairwise_append.2 ⟨hp.1, (List.pairwise_cons.1 hp.2.1).2, fun a ha b hb => hp.2.2 a ha b (by simp [hb])⟩
        · intro k hk hlk j hj
          rw [getD_set _ _ _ _ (by rw [hr.size]; exact hsz)] at hlk ⊢
          split
          · rfl
          · split at hlk
            · rename_i hki; subst hki; exact hanc j hj
            · exact hr.shut k hk hlk j hj
        · intro pre' j post' he o ho e hea hb
          rw [getD_set _ _ _ _ (by rw [hr.size]; exact hsz)]
          -- where j stood
          have hj : ∃ p2 s2, pre ++ i :: post = p2 ++ j :: s2 ∧ ∀ x ∈ p2, x = i ∨ x ∈ pre' := by
            rcases List.append_eq_append_iff.1 he with ⟨c, h1, h2⟩ | ⟨c, h1, h2⟩
            · -- pre' = pre ++ c, post = c ++ j :: post'
              exact ⟨pre ++ i :: c, post', by rw [h2]; simp, fun x hx => by
                rw [h1]
                rcases List.mem_append.1 hx with h | h
                · exact .inr (by simp [h])
                · rcases List.mem_cons.1 h with h | h
                  · exact .inl h
                  · exact .inr (by simp [h])⟩
            · -- pre = pre' ++ c, j :: post' = c ++ post
              cases c with
              | nil =>
                simp only [List.append_nil, List.nil_append] at h1 h2
                exact ⟨pre ++ [i], post', by rw [← h2]; simp, fun x hx => by
                  rcases List.mem_append.1 hx with h | h
                  · exact .inr (by rw [← h1]; exact h)
                  · exact .inl (by simpa using h)⟩
              | cons y c =>
                simp only [List.cons_append, List.cons.injEq] at h2
                obtain ⟨rfl, h2⟩ := h2
                exact ⟨pre', c ++ i :: post, by rw [h1]; simp, fun x hx => .inr hx⟩
          obtain ⟨p2, s2, h3, h4⟩ := hj
          rcases hr.ahead p2 j s2 h3 o ho e hea hb with h | h
          · rcases h4 _ h with h | h
            · right; rw [if_pos h]
            · exact .inl h
          · right; split
            · rfl
            · exact h
      have hlen : (pre ++ post).length ≤ fuel := by
        have : (pre ++ i :: post).length = (pre ++ post).length + 1 := by simp; omega
        omega
      unfold wpOpIn
      rw [hoi]
      simp only
      -- an operation that leaves what is owned as it is
      have exact_ : ∀ v, ExactG P ops oi env H v → WpPi P N ops Inv Q cls (pre ++ post) (env.put oi.dst v) H →
          (if Region.wanted oi (yielded ops a.tmps) = true then oi.wpIn (fen fr.round) m P a w (wpAnyIn (fen fr.round) m P .any ops Q' fuel (listed.setIfInBounds i true)) Q' else (∀ f, oi.about P w a.eval = some f → (fen fr.round).fn f) ∧ wpAnyIn (fen fr.round) m P .any ops Q' fuel (listed.setIfInBounds i true) (a.put oi.dst undef) w) := by
        intro v hx hw
        rcases hx with ⟨hg, hx⟩ | ⟨hg, rfl⟩
        · rw [if_pos (r.guard hg)]
          refine hx fr.round m a w (r.opR oi) _ _ ?_ (fun _ _ _ _ _ h => h.elim)
          rintro v1 v' H' w' ev hh hv ⟨rfl, rfl⟩
          exact ih _ _ _ _ hlen hrem' hI hw fr m _ _ (r.put ev hh hd hv) Q' (fun e a' w2 hp => hq _ _ _ (hp.evol ev))
        · rw [if_neg (by rw [r.guard hg]; simp)]
          exact ⟨fun _ _ => trivial, ih _ _ _ _ hlen hrem' hI hw fr m _ _ (r.put (.refl _ _) r.heap hd (.lit undef)) Q' hq⟩
      cases hc : cls i with
      | I => rw [hc] at hw; obtain ⟨v, h4, h5⟩ := hw; exact exact_ v (h4 H hI) h5
      | S => rw [hc] at hw; obtain ⟨v, h4, h5⟩ := hw; exact exact_ v h4 h5
      | E =>
        rw [hc] at hw
        rcases hw with ⟨hg, hw⟩ | ⟨hg, hw⟩
        · rw [if_pos (r.guard hg)]
          refine hw fr.round m a w (r.opR oi) _ _ ?_ (fun ch H' w' ev hh he => hq _ _ _ ⟨env, H', ev, r.evol ev hh, he env⟩)
          intro v v' H' w' ev hh hv hw
          exact ih _ _ _ _ hlen hrem' hw.1 hw.2 fr m _ _ (r.put ev hh hd hv) Q' (fun e a' w2 hp => hq _ _ _ (hp.evol ev))
        · rw [if_neg (by rw [r.guard hg]; simp)]
          exact ⟨fun _ _ => trivial, ih _ _ _ _ hlen hrem' hI hw fr m _ _ (r.put (.refl _ _) r.heap hd (.lit undef)) Q' hq⟩
def directOf (o : Oper) : List Nat := (o.after.toList.filter (Region.binds .any)).map (·.on)
def ancOf (ops : List Oper) : List (List Nat) := ops.foldl (fun acc o => acc ++ [((directOf o).foldl (fun l k => if l.contains k then l else ((k :: acc.getD k []).foldl (fun l j => if l.contains j then l else j :: l) l)) [])]) []
def clsAt (cs : List Cls) (i : Nat) : Cls := cs.getD i .I
def pairOk (ops : Array Oper) (cs : List Cls) (anc : List (List Nat)) (k i : Nat) : Bool :=
 (anc.getD i []).contains k || (match ops[i]?, ops[k]? with
  | some oi, some ok => ok.apart ops oi && (clsAt cs k != .E) && (clsAt cs i != .E || clsAt cs k == .I)
  | _, _ => true)
def pairsOk (ops : Array Oper) (cs : List Cls) (anc : List (List Nat)) : List Nat → Bool
 | [] => true
 | k :: r => r.all (fun i => pairOk ops cs anc k i) && pairsOk ops cs anc r
def aheadOk (ops : Array Oper) : List Nat → List Nat → Bool
 | _, [] => true
 | pre, i :: r => (match ops[i]? with | some o => (directOf o).all pre.contains | none => true) && aheadOk ops (i :: pre) r
def nodupB : List Nat → Bool
 | [] => true
 | i :: r => !r.contains i && nodupB r
def drawOk (ops : Array Oper) (cs : List Cls) (anc : List (List Nat)) (ord : List Nat) : Bool :=
 (ord.length == ops.size) && (List.range ops.size).all ord.contains && ord.all (fun i => Nat.blt i ops.size) &&
 (List.range ops.size).all (fun i => match ops[i]? with | some o => (anc.getD i []).all (fun k => (directOf o).any fun e => e == k || (anc.getD e []).contains k) | none => true) &&
 pairsOk ops cs anc ord && aheadOk ops [] ord && nodupB ord
theorem pairsOk_spec {cs : List Cls} {anc : List (List Nat)} : ∀ {l : List Nat}, pairsOk ops cs anc l = true → l.Pairwise fun k i => k ∈ anc.getD i [] ∨ freeOf ops (clsAt cs) i k
 | [], _ => .nil
 | k :: r, h => by
  simp only [pairsOk, Bool.and_eq_true, List.all_eq_true] at h
  refine List.pairwise_cons.2 ⟨fun i hi => ?_, pairsOk_spec h.2⟩
  have := h.1 i hi
  unfold pairOk at this
  simp only [Bool.or_eq_true, List.contains_iff_mem] at this
  rcases this with h | h
  ·exact .inl h
  ·refine .inr fun oi ok h1 h2 => ?_
   rw [h1, h2] at h
   simp only [Bool.and_eq_true, bne_iff_ne, ne_eq, Bool.or_eq_true, beq_iff_eq] at h
   exact ⟨h.1.1, h.1.2, fun e => h.2.resolve_left (fun q => q e)⟩
theorem aheadOk_spec : ∀ {l p0 : List Nat}, aheadOk ops p0 l = true → ∀ pre i post, l = pre ++ i :: post → ∀ o, ops[i]? = some o → ∀ e ∈ o.after, Region.binds .any e = true → e.on ∈ p0 ∨ e.on ∈ pre
  | [], p0, _, pre, i, post, h => by cases pre <;> simp at h
  | j :: r, p0, h, pre, i, post, he => by
    intro o ho e hea hb
    simp only [aheadOk, Bool.and_eq_true] at h
    cases pre with
    | nil =>
      simp only [List.nil_append, List.cons.injEq] at he
      obtain ⟨rfl, rfl⟩ := he
      rw [ho] at h
      have := List.all_eq_true.1 h.1 e.on (List.mem_map.2 ⟨e, List.mem_filter.2 ⟨by simpa using hea, hb⟩, rfl⟩)
      exact .inl (by simpa using this)
    | cons q pre =>
      simp only [List.cons_append, List.cons.injEq] at he
      obtain ⟨rfl, he⟩ := he
      rcases aheadOk_spec h.2 pre i post he o ho e hea hb with h1 | h1
      · rcases List.mem_cons.1 h1 with h1 | h1
        · exact .inr (by simp [h1])
        · exact .inl h1
      · exact .inr (by simp [h1])
theorem nodupB_spec : ∀ {l : List Nat}, nodupB l = true → l.Nodup
  | [], _ => .nil
  | i :: r, h => by
    simp only [nodupB, Bool.and_eq_true, Bool.not_eq_true'] at h
    exact List.nodup_cons.2 ⟨(fun hm => by have := List.contains_iff_mem.2 hm; rw [h.1] at this; cases this), nodupB_spec h.2⟩
theorem WpC.drawI {env : Env} {H : Heap} {id : Nat} {l : List Oper} (cs : List Cls) (ord : List Nat) (hm : P.follows .mixedOrders = true) (hok : drawOk l.toArray cs (ancOf l) ord = true) (hI : Inv H) (h : WpPi P N l.toArray Inv Q (clsAt cs) ord env H) : WpC P N (.region id l.toArray true) env H Q := fun fr n a w r => by
 simp only [drawOk, Bool.and_eq_true, beq_iff_eq, List.all_eq_true, List.mem_range] at hok
 obtain ⟨⟨⟨⟨⟨⟨h1, h2⟩, h3⟩, h4⟩, h5⟩, h6⟩, h7⟩ := hok
 have hmem : ∀ i < l.toArray.size, i ∈ ord := fun i hi => by simpa using h2 i hi
 have hrem : Rem l.toArray (clsAt cs) (fun i => (ancOf l).getD i []) (Array.replicate l.toArray.size false) ord := by
  refine ⟨by simp, fun i => ⟨fun hi => ?_, fun hi => hmem i hi.1⟩, nodupB_spec h7, pairsOk_spec h5, fun k hk hl => ?_, fun i o ho k hk => ?_, fun pre i post he o ho e hea hb => ?_⟩
  ·have := h3 i hi
   have hi' : i < l.toArray.size := by simpa [Nat.blt_eq] using this
   exact ⟨hi', by rw [Array.getD_eq_getD_getElem?, Array.getElem?_replicate, if_pos hi']; rfl⟩
  ·simp [Array.getD_eq_getD_getElem?, Array.getElem?_replicate, hk] at hl
   have : k < l.length := by simpa using hk
   simp [this] at hl
  ·have hi := (Array.getElem?_eq_some_iff.1 ho).1
   have := h4 i hi
   rw [ho] at this
   have := List.all_eq_true.1 this k hk
   simp only [List.any_eq_true, Bool.or_eq_true, beq_iff_eq, List.contains_iff_mem] at this
   obtain ⟨e, he, hh⟩ := this
   obtain ⟨x, hx, rfl⟩ := List.mem_map.1 he
   obtain ⟨hx1, hx2⟩ := List.mem_filter.1 hx
   exact ⟨x, by simpa using hx1, hx2, hh⟩
  ·rcases aheadOk_spec h6 pre i post he o ho e hea hb with h | h
   ·cases h
   ·exact .inl h
 refine wpIn_region_any hm ?_
 have r' : Rel fr N env H a w.drew := r.evol (Evol.drew H w) r.heap.drew
 exact draw_main l.toArray.size ord _ env H (by omega) hrem hI h fr n a w.drew r' _ (fun e a' w' hp => hp.evol (Evol.drew H w))
theorem WpC.draw {env : Env} {H : Heap} {id : Nat} {l : List Oper} (cs : List Cls) (ord : List Nat) (hm : P.follows .mixedOrders = true) (hok : drawOk l.toArray cs (ancOf l) ord = true) (h : WpPi P N l.toArray (fun _ => True) Q (clsAt cs) ord env H) : WpC P N (.region id l.toArray true) env H Q := WpC.drawI cs ord hm hok trivial h
theorem uV {cls : Nat → Cls} {i : Nat} {r : List Nat} {env : Env} {H : Heap} {o : Oper} {v : AV} (ho : ops[i]? = some o) (hc : cls i = .I) (hd : dstOk N o = true) (hg : guardOf ops env o = some true) (hv : ∀ H', Exact P o env H' v) (h : WpPi P N ops Inv Q cls r (env.put o.dst v) H) : WpPi P N ops Inv Q cls (i :: r) env H :=
 ⟨o, ho, hd, by rw [hc]; exact ⟨v, fun H' _ => .inl ⟨hg, hv H'⟩, h⟩⟩
theorem vD {cls : Nat → Cls} {i : Nat} {r : List Nat} {env : Env} {H : Heap} {o : Oper} {v : AV} (ho : ops[i]? = some o) (hc : cls i = .I) (hd : dstOk N o = true) (hg : guardOf ops env o = some true) (hv : ∀ H', Inv H' → Exact P o env H' v) (h : WpPi P N ops Inv Q cls r (env.put o.dst v) H) : WpPi P N ops Inv Q cls (i :: r) env H :=
 ⟨o, ho, hd, by rw [hc]; exact ⟨v, fun H' hi => .inl ⟨hg, hv H' hi⟩, h⟩⟩
theorem uT {cls : Nat → Cls} {i : Nat} {r : List Nat} {env : Env} {H : Heap} {o : Oper} {v : AV} (ho : ops[i]? = some o) (hc : cls i = .S) (hd : dstOk N o = true) (hg : guardOf ops env o = some true) (hv : Exact P o env H v) (h : WpPi P N ops Inv Q cls r (env.put o.dst v) H) : WpPi P N ops Inv Q cls (i :: r) env H :=
 ⟨o, ho, hd, by rw [hc]; exact ⟨v, .inl ⟨hg, hv⟩, h⟩⟩
theorem WpPi.skip {cls : Nat → Cls} {i : Nat} {r : List Nat} {env : Env} {H : Heap} {o : Oper} (ho : ops[i]? = some o) (hd : dstOk N o = true) (hg : guardOf ops env o = some false) (h : WpPi P N ops Inv Q cls r (env.put o.dst (.lit undef)) H) : WpPi P N ops Inv Q cls (i :: r) env H :=
 ⟨o, ho, hd, by
  cases hcl : cls i with
  | I => exact ⟨_, fun H' _ => .inr ⟨hg, rfl⟩, h⟩
  | S => exact ⟨_, .inr ⟨hg, rfl⟩, h⟩
  | E => exact .inr ⟨hg, h⟩⟩
theorem vE {cls : Nat → Cls} {i : Nat} {r : List Nat} {env : Env} {H : Heap} {o : Oper} (ho : ops[i]? = some o) (hc : cls i = .E) (hd : dstOk N o = true) (hg : guardOf ops env o = some true) (hv : WpO P o env H (fun v H' => Inv H' ∧ WpPi P N ops Inv Q cls r (env.put o.dst v) H') noE) : WpPi P N ops Inv Q cls (i :: r) env H :=
 ⟨o, ho, hd, by rw [hc]; exact .inl ⟨hg, hv.mono (fun _ _ h => h) (fun _ _ h => h.elim)⟩⟩
theorem WpPi.consP {cls : Nat → Cls} {i : Nat} {r : List Nat} {env : Env} {H : Heap} {o : Oper} (ho : ops[i]? = some o) (hc : cls i = .E) (hd : dstOk N o = true) (hg : guardOf ops env o = some true) (hv : WpO P o env H (fun v H' => WpPi P N ops (fun _ => True) Q cls r (env.put o.dst v) H') (panQ Q)) : WpPi P N ops (fun _ => True) Q cls (i :: r) env H :=
 ⟨o, ho, hd, by rw [hc]; exact .inl ⟨hg, hv.mono (fun _ _ h => ⟨trivial, h⟩) (fun _ _ h => h)⟩⟩
theorem vM {cls : Nat → Cls} {i : Nat} {r : List Nat} {env : Env} {H : Heap} {o : Oper} (ho : ops[i]? = some o) (hc : cls i = .E) (hd : dstOk N o = true) (hg : guardOf ops env o = some true) (hv : WpO P o env H (fun v H' => WpPi P N ops (fun _ => True) Q cls r (env.put o.dst v) H') noE) : WpPi P N ops (fun _ => True) Q cls (i :: r) env H :=
 vE ho hc hd hg (hv.mono (fun v H' h => ⟨trivial, h⟩) (fun _ _ h => h))
end draw
section steps
variable {P : Program} {N : Nat} {env : Env} {H : Heap} {Q : QC} {ops : Array Oper} {Inv : Heap → Prop}
def forceP {β : Type} : List Prop → (List Prop → β) → β
 | [], k => k []
 | p :: ps, k => forceP ps fun ps' => k (p :: ps')
theorem forceP_eq {β : Type} : ∀ (l : List Prop) (k : List Prop → β), forceP l k = k l
 | [], k => rfl
 | p :: ps, k => by rw [forceP, forceP_eq ps]
def pevs (P : Program) (N : Nat) (ops : Array Oper) : Nat → List Oper → Env → List Prop → List Oper × Env × List Prop
 | 0, l, env, cs => forceP cs fun cs => (l, env, cs)
 | _, [], env, cs => forceP cs fun cs => ([], env, cs)
 | n + 1, o :: rest, env, cs => match dstOk N o, guardOf ops env o with
  | true, some true => (match pev P o.op env with
   | some (v, c) => pevs P N ops n rest (env.put o.dst v) (c ++ cs)
   | none => forceP cs fun cs => (o :: rest, env, cs))
  | true, some false => pevs P N ops n rest (env.put o.dst (.lit undef)) cs
  | _, _ => forceP cs fun cs => (o :: rest, env, cs)
theorem conj_append : ∀ (a b : List Prop), conj (a ++ b) ↔ conj a ∧ conj b
 | [], b => by simp [conj]
 | [p], [] => by simp [conj]
 | [p], q :: b => by simp [conj]
 | p :: q :: a, b => by
  have := conj_append (q :: a) b
  simp only [List.cons_append, conj] at this ⊢
  rw [this, and_assoc]
theorem pevs_sound : ∀ (n : Nat) (l : List Oper) (env : Env) (cs : List Prop) (l' : List Oper) (env' : Env) (cs' : List Prop), pevs P N ops n l env cs = (l', env', cs') → conj cs' → WpOps P N ops Q l' env' H → WpOps P N ops Q l env H ∧ conj cs
  | 0, l, env, cs, l', env', cs', h, hc, k => by simp only [pevs, forceP_eq, Prod.mk.injEq] at h; obtain ⟨rfl, rfl, rfl⟩ := h; exact ⟨k, hc⟩
  | n + 1, [], env, cs, l', env', cs', h, hc, k => by simp only [pevs, forceP_eq, Prod.mk.injEq] at h; obtain ⟨rfl, rfl, rfl⟩ := h; exact ⟨k, hc⟩
  | n + 1, o :: rest, env, cs, l', env', cs', h, hc, k => by
    unfold pevs at h
    split at h
    · rename_i hd hg
      split at h
      · rename_i v c hp
        obtain ⟨h1, h2⟩ := pevs_sound n rest _ _ l' env' cs' h hc k
        rw [conj_append] at h2
        exact ⟨uB hg hd (pev_sound hp h2.1 H) h1, h2.2⟩
      · simp only [forceP_eq, Prod.mk.injEq] at h; obtain ⟨rfl, rfl, rfl⟩ := h; exact ⟨k, hc⟩
    · rename_i hd hg
      obtain ⟨h1, h2⟩ := pevs_sound n rest _ _ l' env' cs' h hc k
      exact ⟨WpOps.skipG hg hd h1, h2⟩
    · simp only [forceP_eq, Prod.mk.injEq] at h; obtain ⟨rfl, rfl, rfl⟩ := h; exact ⟨k, hc⟩
theorem uA (n : Nat) {l l' : List Oper} {env' : Env} {cs : List Prop} (h : pevs P N ops n l env [] = (l', env', cs)) (hc : conj cs) (k : WpOps P N ops Q l' env' H) : WpOps P N ops Q l env H := (pevs_sound n l env [] l' env' cs h hc k).1
def pevPi (P : Program) (N : Nat) (ops : Array Oper) (cls : Nat → Cls) : Nat → List Nat → Env → List Prop → List Nat × Env × List Prop
 | 0, l, env, cs => forceP cs fun cs => (l, env, cs)
 | _, [], env, cs => forceP cs fun cs => ([], env, cs)
 | n + 1, i :: rest, env, cs => match ops[i]?, cls i with
  | some o, .I => (match dstOk N o, guardOf ops env o with
   | true, some true => (match pev P o.op env with
    | some (v, c) => pevPi P N ops cls n rest (env.put o.dst v) (c ++ cs)
    | none => forceP cs fun cs => (i :: rest, env, cs))
   | true, some false => pevPi P N ops cls n rest (env.put o.dst (.lit undef)) cs
   | _, _ => forceP cs fun cs => (i :: rest, env, cs))
  | _, _ => forceP cs fun cs => (i :: rest, env, cs)
theorem pevPi_sound {cls : Nat → Cls} : ∀ (n : Nat) (l : List Nat) (env : Env) (cs : List Prop) (l' : List Nat) (env' : Env) (cs' : List Prop), pevPi P N ops cls n l env cs = (l', env', cs') → conj cs' → WpPi P N ops Inv Q cls l' env' H → WpPi P N ops Inv Q cls l env H ∧ conj cs
  | 0, l, env, cs, l', env', cs', h, hc, k => by simp only [pevPi, forceP_eq, Prod.mk.injEq] at h; obtain ⟨rfl, rfl, rfl⟩ := h; exact ⟨k, hc⟩
  | n + 1, [], env, cs, l', env', cs', h, hc, k => by simp only [pevPi, forceP_eq, Prod.mk.injEq] at h; obtain ⟨rfl, rfl, rfl⟩ := h; exact ⟨k, hc⟩
  | n + 1, i :: rest, env, cs, l', env', cs', h, hc, k => by
    unfold pevPi at h
    split at h
    · rename_i o ho hcl
      split at h
      · rename_i hd hg
        split at h
        · rename_i v c hp
          obtain ⟨h1, h2⟩ := pevPi_sound n rest _ _ l' env' cs' h hc k
          rw [conj_append] at h2
          exact ⟨uV ho hcl hd hg (fun H' => pev_sound hp h2.1 H') h1, h2.2⟩
        · simp only [forceP_eq, Prod.mk.injEq] at h; obtain ⟨rfl, rfl, rfl⟩ := h; exact ⟨k, hc⟩
      · rename_i hd hg
        obtain ⟨h1, h2⟩ := pevPi_sound n rest _ _ l' env' cs' h hc k
        exact ⟨WpPi.skip ho hd hg h1, h2⟩
      · simp only [forceP_eq, Prod.mk.injEq] at h; obtain ⟨rfl, rfl, rfl⟩ := h; exact ⟨k, hc⟩
    · simp only [forceP_eq, Prod.mk.injEq] at h; obtain ⟨rfl, rfl, rfl⟩ := h; exact ⟨k, hc⟩
theorem uK {cls : Nat → Cls} (n : Nat) {l l' : List Nat} {env' : Env} {cs : List Prop} (h : pevPi P N ops cls n l env [] = (l', env', cs)) (hc : conj cs) (k : WpPi P N ops Inv Q cls l' env' H) : WpPi P N ops Inv Q cls l env H := (pevPi_sound n l env [] l' env' cs h hc k).1
theorem WpPi.nil {cls : Nat → Cls} (h : Q .normal env H) : WpPi P N ops Inv Q cls [] env H := h
theorem uC {id : Nat} {l : List Oper} {y : Code} (h : WpOps P N l.toArray (thenQ (fun env' H' => WpC P N y env' H' Q) Q) l env H) : WpC P N (.seq (.region id l.toArray false) y) env H Q := WpC.seq (WpC.region h)
theorem wJ {id : Nat} {l : List Oper} {y : Code} (Inv : Heap → Prop) (cs : List Cls) (ord : List Nat) (hm : P.follows .mixedOrders = true) (hok : drawOk l.toArray cs (ancOf l) ord = true) (hI : Inv H) (h : WpPi P N l.toArray Inv (thenQ (fun env' H' => WpC P N y env' H' Q) Q) (clsAt cs) ord env H) : WpC P N (.seq (.region id l.toArray true) y) env H Q := WpC.seq (WpC.drawI cs ord hm hok hI h)
theorem vO {id : Nat} {l : List Oper} {y : Code} (cs : List Cls) (ord : List Nat) (hm : P.follows .mixedOrders = true) (hok : drawOk l.toArray cs (ancOf l) ord = true) (h : WpPi P N l.toArray (fun _ => True) (thenQ (fun env' H' => WpC P N y env' H' Q) Q) (clsAt cs) ord env H) : WpC P N (.seq (.region id l.toArray true) y) env H Q := WpC.seq (WpC.draw cs ord hm hok h)
theorem uF {c : Operand} {x y : Code} {b : Bool} (hc : env.ev c = .lit (.bool b)) (h1 : b = true → WpC P N x env H Q) (h2 : b = false → WpC P N y env H Q) : WpC P N (.cond c x y) env H Q := WpC.cond hc h1 h2
theorem WpC.condT {c : Operand} {x y : Code} (hc : env.ev c = .lit (.bool true)) (h1 : WpC P N x env H Q) : WpC P N (.cond c x y) env H Q := WpC.cond hc (fun _ => h1) (fun h => by cases h)
theorem wI {c : Operand} {x y : Code} (hc : env.ev c = .lit (.bool false)) (h1 : WpC P N y env H Q) : WpC P N (.cond c x y) env H Q := WpC.cond hc (fun h => by cases h) (fun _ => h1)
end steps
def memN (t : Nat) : List Nat → Bool
 | [] => false
 | d :: ds => match Nat.beq t d with
  | true => true
  | false => memN t ds
def Env.mix (ds : List Nat) (env env0 : Env) : Env := fun t => match memN t ds with
 | true => env0 t
 | false => env t
def forceN {β : Type} : List Nat → (List Nat → β) → β
 | [], k => k []
 | 0 :: xs, k => forceN xs fun xs' => k (0 :: xs')
 | (n + 1) :: xs, k => forceN xs fun xs' => k ((n + 1) :: xs')
theorem forceN_eq {β : Type} : ∀ (l : List Nat) (k : List Nat → β), forceN l k = k l
 | [], k => rfl
 | 0 :: xs, k => by rw [forceN, forceN_eq xs]
 | (n + 1) :: xs, k => by rw [forceN, forceN_eq xs]
def dstsOf : List Oper → List Nat
 | [] => []
 | o :: r => match o.dst with
  | some d => d :: dstsOf r
  | none => dstsOf r
def dstsPi (ops : Array Oper) : List Nat → List Nat
 | [] => []
 | i :: r => match (ops[i]?).bind (·.dst) with
  | some d => d :: dstsPi ops r
  | none => dstsPi ops r
theorem memN_iff {t : Nat} : ∀ {ds : List Nat}, memN t ds = true ↔ t ∈ ds
  | [] => by simp [memN]
  | d :: ds => by
    unfold memN
    cases h : Nat.beq t d with
    | true => simp [Nat.eq_of_beq_eq_true h]
    | false =>
      have : t ≠ d := fun e => by subst e; rw [Nat.beq_refl] at h; cases h
      simp [this, memN_iff (ds := ds)]
theorem mix_eq {env env' : Env} {ds : List Nat} (h : ∀ t, t ∉ ds → env' t = env t) : Env.mix ds env env' = env' := by
  funext t
  unfold Env.mix
  cases hm : memN t ds with
  | true => rfl
  | false => exact (h t (fun hh => by rw [memN_iff.2 hh] at hm; cases hm)).symm
section cuts
variable {P : Program} {N : Nat} {env : Env} {H : Heap} {Q : QC} {ops : Array Oper} {Inv : Heap → Prop}
theorem uL (d : Nat) {l : List Oper} {b : Bool} (hb : env d = .lit (.bool b)) (h1 : b = true → WpOps P N ops Q l (env.put (some d) (.lit (.bool true))) H) (h2 : b = false → WpOps P N ops Q l (env.put (some d) (.lit (.bool false))) H) : WpOps P N ops Q l env H := by
  have he : env.put (some d) (.lit (.bool b)) = env := by
    funext t; simp only [Env.put]; split
    · rename_i e; rw [e, hb]
    · rfl
  rw [← he]
  cases b
  · exact h2 rfl
  · exact h1 rfl
theorem wK (d : Nat) {cls : Nat → Cls} {l : List Nat} {b : Bool} (hb : env d = .lit (.bool b)) (h1 : b = true → WpPi P N ops Inv Q cls l (env.put (some d) (.lit (.bool true))) H) (h2 : b = false → WpPi P N ops Inv Q cls l (env.put (some d) (.lit (.bool false))) H) : WpPi P N ops Inv Q cls l env H := by
  have he : env.put (some d) (.lit (.bool b)) = env := by
    funext t; simp only [Env.put]; split
    · rename_i e; rw [e, hb]
    · rfl
  rw [← he]
  cases b
  · exact h2 rfl
  · exact h1 rfl
theorem WpOps.frame {M : Env → Heap → Prop} : ∀ (l : List Oper) (env : Env) (H : Heap), WpOps P N ops (thenQ M Q) l env H → WpOps P N ops (thenQ (fun env' H' => M env' H' ∧ ∀ t, t ∉ dstsOf l → env' t = env t) Q) l env H
 | [], env, H, h => ⟨h, fun _ _ => rfl⟩
 | o :: r, env, H, h => by
  have step : ∀ (v : AV) (H' : Heap), WpOps P N ops (thenQ M Q) r (env.put o.dst v) H' → WpOps P N ops (thenQ (fun env' H' => M env' H' ∧ ∀ t, t ∉ dstsOf (o :: r) → env' t = env t) Q) r (env.put o.dst v) H' := by
   intro v H' hh
   refine WpOps.monoQ r _ _ (WpOps.frame r _ _ hh) ?_
   intro e env' H2 q
   cases e with
   | normal =>
    refine ⟨q.1, fun t ht => ?_⟩
    unfold dstsOf at ht
    cases hd : o.dst with
    | none => rw [hd] at ht q; rw [q.2 t ht]; rfl
    | some d =>
     rw [hd] at ht q
     simp only [List.mem_cons, not_or] at ht
     rw [q.2 t ht.2]
     simp [Env.put, ht.1]
   | exit id => exact q
   | goto l => exact q
   | ret => exact q
   | panic ch => exact q
   | outgrown => exact q
  obtain ⟨hd, h⟩ := h
  exact ⟨hd, h.imp (fun ⟨hg, h⟩ => ⟨hg, h.mono (fun v H' hh => step v H' hh) (fun _ _ hh => hh)⟩) (fun ⟨hg, h⟩ => ⟨hg, step _ _ h⟩)⟩
where WpOps.monoQ {Q1 Q2 : QC} : ∀ (l : List Oper) (env : Env) (H : Heap), WpOps P N ops Q1 l env H → (∀ e env H, Q1 e env H → Q2 e env H) → WpOps P N ops Q2 l env H
 | [], env, H, h, k => k _ _ _ h
 | o :: r, env, H, ⟨hd, h⟩, k => ⟨hd, h.imp (fun ⟨hg, h⟩ => ⟨hg, h.mono (fun v H' hh => WpOps.monoQ r _ _ hh k) (fun ch H' hh => k _ _ _ hh)⟩) (fun ⟨hg, h⟩ => ⟨hg, WpOps.monoQ r _ _ h k⟩)⟩
theorem uM (n : Nat) (r : Tmp) (v : AV) {l : List Oper} {ds : List Nat} (hds : forceN (dstsOf (l.take n)) some = some ds) (h1 : WpOps P N ops (thenQ (fun env' H' => env' r = v ∧ H' = H) Q) (l.take n) env H) (h2 : ∀ env0, WpOps P N ops Q (l.drop n) ((Env.mix ds env env0).put (some r) v) H) : WpOps P N ops Q l env H := by
  rw [forceN_eq] at hds; injection hds with hds; subst hds
  have := WpOps.cut _ (l.take n) (l2 := l.drop n) (WpOps.frame _ _ _ h1) (by
    rintro env' H' ⟨⟨e1, rfl⟩, e2⟩
    have h3 := h2 env'
    rw [mix_eq e2] at h3
    have he : env'.put (some r) v = env' := by
      funext t; simp only [Env.put]; split
      · rename_i e; rw [e, e1]
      · rfl
    rw [he] at h3
    exact h3)
  rwa [List.take_append_drop] at this
theorem WpPi.monoQ {cls : Nat → Cls} {Q1 Q2 : QC} : ∀ (l : List Nat) (env : Env) (H : Heap), WpPi P N ops Inv Q1 cls l env H → (∀ e env H, Q1 e env H → Q2 e env H) → WpPi P N ops Inv Q2 cls l env H
  | [], env, H, h, k => k _ _ _ h
  | i :: r, env, H, ⟨o, ho, hd, h⟩, k => ⟨o, ho, hd, by
    cases hc : cls i with
    | I => rw [hc] at h; obtain ⟨v, h1, h2⟩ := h; exact ⟨v, h1, WpPi.monoQ r _ _ h2 k⟩
    | S => rw [hc] at h; obtain ⟨v, h1, h2⟩ := h; exact ⟨v, h1, WpPi.monoQ r _ _ h2 k⟩
    | E => rw [hc] at h; exact h.imp (fun h => ⟨h.1, h.2.mono (fun v H' hh => ⟨hh.1, WpPi.monoQ r _ _ hh.2 k⟩) (fun _ _ hh env' => k _ _ _ (hh env'))⟩) (fun h => ⟨h.1, WpPi.monoQ r _ _ h.2 k⟩)⟩
theorem WpPi.frame {cls : Nat → Cls} {M : Env → Heap → Prop} : ∀ (l : List Nat) (env : Env) (H : Heap), WpPi P N ops Inv (thenQ M Q) cls l env H → WpPi P N ops Inv (thenQ (fun env' H' => M env' H' ∧ ∀ t, t ∉ dstsPi ops l → env' t = env t) Q) cls l env H
  | [], env, H, h => ⟨h, fun _ _ => rfl⟩
  | i :: r, env, H, ⟨o, ho, hd, h⟩ => by
    have step : ∀ (v : AV) (H' : Heap), WpPi P N ops Inv (thenQ M Q) cls r (env.put o.dst v) H' → WpPi P N ops Inv (thenQ (fun env' H' => M env' H' ∧ ∀ t, t ∉ dstsPi ops (i :: r) → env' t = env t) Q) cls r (env.put o.dst v) H' := by
      intro v H' hh
      refine WpPi.monoQ r _ _ (WpPi.frame r _ _ hh) ?_
      intro e env' H2 q
      cases e with
      | normal =>
        refine ⟨q.1, fun t ht => ?_⟩
        unfold dstsPi at ht
        rw [ho] at ht
        simp only [Option.bind_some] at ht
        cases hdd : o.dst with
        | none => rw [hdd] at ht q; rw [q.2 t ht]; rfl
        | some d =>
          rw [hdd] at ht q
          simp only [List.mem_cons, not_or] at ht
          rw [q.2 t ht.2]
          simp [Env.put, ht.1]
      | exit id => exact q
      | goto l => exact q
      | ret => exact q
      | panic ch => exact q
      | outgrown => exact q
    refine ⟨o, ho, hd, ?_⟩
    cases hc : cls i with
    | I => rw [hc] at h; obtain ⟨v, h1, h2⟩ := h; exact ⟨v, h1, step _ _ h2⟩
    | S => rw [hc] at h; obtain ⟨v, h1, h2⟩ := h; exact ⟨v, h1, step _ _ h2⟩
    | E => rw [hc] at h; exact h.imp (fun h => ⟨h.1, h.2.mono (fun v H' hh => ⟨hh.1, step v H' hh.2⟩) (fun _ _ hh => hh)⟩) (fun h => ⟨h.1, step _ _ h.2⟩)
theorem WpPi.cutM {cls : Nat → Cls} (M : Env → Heap → Prop) : ∀ (l1 : List Nat) {l2 : List Nat} {env : Env} {H : Heap}, WpPi P N ops Inv (thenQ M Q) cls l1 env H → (∀ env H, M env H → WpPi P N ops Inv Q cls l2 env H) → WpPi P N ops Inv Q cls (l1 ++ l2) env H
  | [], l2, env, H, h, k => k env H h
  | i :: l1, l2, env, H, ⟨o, ho, hd, h⟩, k => ⟨o, ho, hd, by
    cases hc : cls i with
    | I => rw [hc] at h; obtain ⟨v, h1, h2⟩ := h; exact ⟨v, h1, WpPi.cutM M l1 h2 k⟩
    | S => rw [hc] at h; obtain ⟨v, h1, h2⟩ := h; exact ⟨v, h1, WpPi.cutM M l1 h2 k⟩
    | E => rw [hc] at h; exact h.imp (fun h => ⟨h.1, h.2.mono (fun v H' hh => ⟨hh.1, WpPi.cutM M l1 hh.2 k⟩) (fun _ _ hh => hh)⟩) (fun h => ⟨h.1, WpPi.cutM M l1 h.2 k⟩)⟩
theorem WpPi.cutB {cls : Nat → Cls} (n : Nat) (r : Tmp) (v : AV) {l : List Nat} {ds : List Nat} (hds : forceN (dstsPi ops (l.take n)) some = some ds) (h1 : WpPi P N ops Inv (thenQ (fun env' H' => env' r = v ∧ H' = H) Q) cls (l.take n) env H) (h2 : ∀ env0, WpPi P N ops Inv Q cls (l.drop n) ((Env.mix ds env env0).put (some r) v) H) : WpPi P N ops Inv Q cls l env H := by
  rw [forceN_eq] at hds; injection hds with hds; subst hds
  have := WpPi.cutM _ (l.take n) (l2 := l.drop n) (WpPi.frame _ _ _ h1) (by
    rintro env' H' ⟨⟨e1, rfl⟩, e2⟩
    have h3 := h2 env'
    rw [mix_eq e2] at h3
    have he : env'.put (some r) v = env' := by
      funext t; simp only [Env.put]; split
      · rename_i e; rw [e, e1]
      · rfl
    rw [he] at h3
    exact h3)
  rwa [List.take_append_drop] at this
end cuts
def knows (env : Env) : List (Nat × AV) → Prop
 | [] => True
 | (k, v) :: r => env k = v ∧ knows env r
def Env.of : List (Nat × AV) → Env → Env
 | [], env => env
 | (k, v) :: r, env => (Env.of r env).put (some k) v
theorem knows.eq {env : Env} : ∀ {l : List (Nat × AV)}, knows env l → Env.of l env = env
 | [], _ => rfl
 | (k, v) :: r, h => by
  have ih := knows.eq h.2
  funext t
  simp only [Env.of, Env.put, ih]
  split
  ·rename_i e; rw [e]; exact h.1.symm
  ·rfl
section loops
variable {P : Program} {N : Nat} {env : Env} {H : Heap} {Q : QC}
theorem WpC.known {c : Code} {l : List (Nat × AV)} (hk : knows env l) (h : WpC P N c (Env.of l env) H Q) : WpC P N c env H Q := by rw [← hk.eq]; exact h
theorem vG {x y : Code} {α : Type} (L : α → List (Nat × AV)) (J : α → Heap → Prop) (h1 : WpC P N x env H (thenQ (fun env' H' => ∃ s, knows env' (L s) ∧ J s H') Q)) (h2 : ∀ s env' H', J s H' → WpC P N y (Env.of (L s) env') H' Q) : WpC P N (.seq x y) env H Q := by
  refine WpC.seq (h1.mono ?_)
  intro e env' H' q
  cases e with
  | normal => obtain ⟨s, hk, hj⟩ := q; exact WpC.known hk (h2 s env' H' hj)
  | exit id => exact q
  | goto l => exact q
  | ret => exact q
  | panic ch => exact q
  | outgrown => exact q
theorem wM {x y : Code} {id : Nat} {α : Type} (L : α → List (Nat × AV)) (J : α → Heap → Prop) (h1 : WpC P N x env H (blockQ id (thenQ (fun env' H' => ∃ s, knows env' (L s) ∧ J s H') Q))) (h2 : ∀ s env' H', J s H' → WpC P N y (Env.of (L s) env') H' Q) : WpC P N (.seq (.block id x) y) env H Q :=
 vG L J (WpC.block h1) h2
end loops
section ends
variable {P : Program} {N : Nat} {env : Env} {H : Heap} {fn : Func} {K : AV → Heap → Prop} {E : List PanicEntry → Heap → Prop}
theorem vZ {rs : List ResultVar} {vs : List AV} (hr : fn.results.toList = rs) (h : ResV P env H rs vs) (hk : K (resOf vs) H) : VEnds (P := P) fn K E .ret env H := ⟨vs, by rw [hr]; exact h, hk⟩
theorem VEnds.ret0 (hr : fn.results.toList = []) (hk : K (.tup []) H) : VEnds (P := P) fn K E .ret env H := ⟨[], by rw [hr]; exact .nil, hk⟩
theorem vW (hr : fn.results.toList = []) (hk : K (.tup []) H) : VEnds (P := P) fn K E .normal env H := ⟨[], by rw [hr]; exact .nil, hk⟩
theorem uH {t : Tmp} {v : AV} (hr : fn.results.toList = [.tmp t]) (hv : forceA (env t) some = some v) (hk : K v H) : VEnds (P := P) fn K E .ret env H := by
 rw [forceA_eq] at hv; injection hv with hv
 exact ⟨[v], by rw [hr]; exact .tmp hv .nil, hk⟩
theorem uU {t1 t2 : Tmp} {v1 v2 : AV} (hr : fn.results.toList = [.tmp t1, .tmp t2]) (h1 : forceA (env t1) some = some v1) (h2 : forceA (env t2) some = some v2) (hk : K (.tup [v1, v2]) H) : VEnds (P := P) fn K E .ret env H := by
 rw [forceA_eq] at h1 h2; injection h1 with h1; injection h2 with h2
 exact ⟨[v1, v2], by rw [hr]; exact .tmp h1 (.tmp h2 .nil), hk⟩
theorem VEnds.ret3 {t1 t2 t3 : Tmp} {v1 v2 v3 : AV} (hr : fn.results.toList = [.tmp t1, .tmp t2, .tmp t3]) (h1 : forceA (env t1) some = some v1) (h2 : forceA (env t2) some = some v2) (h3 : forceA (env t3) some = some v3) (hk : K (.tup [v1, v2, v3]) H) : VEnds (P := P) fn K E .ret env H := by
 rw [forceA_eq] at h1 h2 h3; injection h1 with h1; injection h2 with h2; injection h3 with h3
 exact ⟨[v1, v2, v3], by rw [hr]; exact .tmp h1 (.tmp h2 (.tmp h3 .nil)), hk⟩
end ends
theorem map_at {α : Type} {enc : α → List AV} {l : List α} {k : Nat} {x : α} (h : l[k]? = some x) : (l.map enc)[k]? = some (enc x) := by rw [List.getElem?_map, h]; rfl
end Go.Vc
set_option linter.unusedVariables false
set_option linter.unusedSimpArgs false
namespace Go.Vc
open Go
def eqV : Value → Value → Option Bool
 | .int k a, .int k' b => if k = k' then some (decide (a = b)) else none
 | .bool a, .bool b => some (a == b)
 | .string ⟨⟨a⟩⟩, .string ⟨⟨b⟩⟩ => some (decide (a = b))
 | _, _ => none
def eqVs : List Value → List Value → Option Bool
 | [], [] => some true
 | x :: xs, y :: ys => match eqV x y, eqVs xs ys with
  | some a, some b => some (a && b)
  | _, _ => none
 | _, _ => none
def basicT (P : Program) (t : TypeId) : Bool :=
 match P.underlying t with
 | some .bool | some (.int _) | some .string => true
 | _ => false
def plainFields (P : Program) : Nat → List Field → Bool
 | _, [] => true
 | n, f :: fs => (f.offset == n) && (f.name != "_") && basicT P f.type && plainFields P (n + 1) fs
def plainStruct (P : Program) (t : TypeId) : Bool :=
 match P.underlying t with
 | some (.struct fs) => plainFields P 0 fs.toList && !P.stoodInHeld t
 | _ => false
section
variable {P : Program} {w : World} {D : Nat → Prop}
def fitsV (P : Program) (t : TypeId) : Value → Bool
 | .int k _ => match P.underlying t with | some (.int _) => true | _ => false
 | .bool _ => match P.underlying t with | some .bool => true | _ => false
 | .string _ => match P.underlying t with | some .string => true | _ => false
 | _ => false
def fitsVs (P : Program) : List Field → List Value → Bool
 | [], [] => true
 | f :: fs, v :: vs => fitsV P f.type v && fitsVs P fs vs
 | _, _ => false
theorem eqV_run {t : TypeId} {x y : Value} {b : Bool} (h : eqV x y = some b) (hf : fitsV P t x = true) (d : Nat) : (Op.equalIn (d + 1) t x y).run P w = .ok b w := by
  unfold eqV at h
  split at h
  · split at h
    · rename_i k a k' c hk
      injection h with h; subst h; subst hk
      simp only [fitsV] at hf
      cases hu : P.underlying t with
      | none => rw [hu] at hf; cases hf
      | some q =>
        rw [hu] at hf
        cases q <;> simp only [Bool.false_eq_true] at hf
        rw [run_equalIn_int w d t k _ a c hu]; rfl
    · cases h
  · rename_i a c
    injection h with h; subst h
    simp only [fitsV] at hf
    cases hu : P.underlying t with
    | none => rw [hu] at hf; cases hf
    | some q =>
      rw [hu] at hf
      cases q <;> simp only [Bool.false_eq_true] at hf
      exact run_equalIn_bool' w d t a c hu
  · rename_i a c
    injection h with h; subst h
    simp only [fitsV] at hf
    cases hu : P.underlying t with
    | none => rw [hu] at hf; cases hf
    | some q =>
      rw [hu] at hf
      cases q <;> simp only [Bool.false_eq_true] at hf
      rw [run_equalIn_string w d t _ _ hu, ByteArray.toList_eq, ByteArray.toList_eq]
      have : (a == c) = decide (a = c) := by rw [Bool.eq_iff_iff]; simp
      simp [this]
  · cases h
theorem isAgg_basic {t : TypeId} (h : basicT P t = true) : (isAgg t).run P w = .ok false w := by
 unfold basicT at h
 unfold isAgg
 rw [Sem.run_bind]
 split at h
 ·rename_i hu; rw [run_underlying hu]; rfl
 ·rename_i hu; rw [run_underlying hu]; rfl
 ·rename_i hu; rw [run_underlying hu]; rfl
 ·cases h
theorem part_basic {t : TypeId} (h : basicT P t = true) {cs : Array Value} {n : Nat} {v : Value} (hv : cs[n]? = some v) : (part t cs n).run P w = .ok v w := by
 simp [part, isAgg_basic h, hv]
theorem eqFields_run (d : Nat) : ∀ (fs : List Field) (n : Nat) (px py xs ys : List Value) (b : Bool), px.length = n → py.length = n → plainFields P n fs = true → fitsVs P fs xs = true → xs.length = ys.length → eqVs xs ys = some b →
  (Op.eqFields (d + 1) (px ++ xs).toArray (py ++ ys).toArray fs).run P w = .ok b w
 | [], n, px, py, xs, ys, b, h1, h2, hp, hf, hl, he => by
  cases xs with
  | nil =>
   cases ys with
   | nil => simp [eqVs] at he; subst he; rfl
   | cons y ys => simp at hl
  | cons x xs => simp [fitsVs] at hf
 | f :: fs, n, px, py, xs, ys, b, h1, h2, hp, hf, hl, he => by
  cases xs with
  | nil => simp [fitsVs] at hf
  | cons x xs =>
   cases ys with
   | nil => simp at hl
   | cons y ys =>
    simp only [plainFields, Bool.and_eq_true, beq_iff_eq, bne_iff_ne, ne_eq] at hp
    obtain ⟨⟨⟨p1, p2⟩, p3⟩, p4⟩ := hp
    simp only [fitsVs, Bool.and_eq_true] at hf
    unfold eqVs at he
    cases e1 : eqV x y with
    | none => rw [e1] at he; simp at he
    | some c =>
     cases e2 : eqVs xs ys with
     | none => rw [e1, e2] at he; simp at he
     | some c2 =>
      rw [e1, e2] at he
      simp only [Option.some.injEq] at he
      subst he
      have q1 : (px ++ x :: xs).toArray[n]? = some x := by simp [← h1]
      have q2 : (py ++ y :: ys).toArray[n]? = some y := by simp [← h2]
      simp only [Op.eqFields]
      rw [if_pos p2]
      simp only [Sem.run_bind, p1, part_basic p3 q1, part_basic p3 q2, Result.andThen_ok, eqV_run e1 hf.1 d]
      cases c with
      | false => simp
      | true =>
       simp only [Bool.not_true, Bool.false_eq_true, if_false, Bool.true_and]
       have := eqFields_run d fs (n + 1) (px ++ [x]) (py ++ [y]) xs ys c2 (by simp [h1]) (by simp [h2]) p4 hf.2 (by simpa using hl) e2
       simpa using this
theorem eqStruct_run {t : TypeId} (hp : plainStruct P t = true) {xs ys : List Value} {b : Bool} (hf : fitsVs P (P.fieldsOf t).toList xs = true) (hl : xs.length = ys.length) (he : eqVs xs ys = some b) (d : Nat) : (Op.equalIn (d + 1 + 1) t (.agg xs.toArray) (.agg ys.toArray)).run P w = .ok b w := by
 unfold plainStruct at hp
 split at hp
 ·rename_i fs hu
  simp only [Bool.and_eq_true, Bool.not_eq_true'] at hp
  have hfo : P.fieldsOf t = fs := by simp [Program.fieldsOf, hu]
  rw [run_equalIn_struct w (d + 1) t _ _ (by rw [hfo]; exact hu) hp.2]
  have := eqFields_run (w := w) d (P.fieldsOf t).toList 0 [] [] xs ys b rfl rfl (by rw [hfo]; exact hp.1) hf hl he
  simpa using this
 ·cases hp
theorem VRs.lits {us vs : List Value} (h : VRs w D (us.map .lit) vs) : vs = us := by
 apply List.ext_getElem?
 intro k
 cases hu : us[k]? with
 | none => rw [List.getElem?_eq_none_iff] at hu ⊢; rw [h.1]; simpa using hu
 | some u =>
  obtain ⟨v, h1, h2⟩ := h.at_ (k := k) (x := .lit u) (by rw [List.getElem?_map, hu]; rfl)
  rw [h1, h2.lit_inv]
theorem eqVs_length : ∀ (xs ys : List Value) (b : Bool), eqVs xs ys = some b → xs.length = ys.length
 | [], [], b, h => rfl
 | [], _ :: _, b, h => by simp [eqVs] at h
 | _ :: _, [], b, h => by simp [eqVs] at h
 | x :: xs, y :: ys, b, h => by
  unfold eqVs at h
  cases h1 : eqV x y with
  | none => rw [h1] at h; simp at h
  | some c =>
   cases h2 : eqVs xs ys with
   | none => rw [h1, h2] at h; simp at h
   | some c2 => simp [eqVs_length xs ys c2 h2]
end
def keyEq : Value → Value → Bool
 | .int _ a, .int _ b => decide (a = b)
 | .string ⟨⟨a⟩⟩, .string ⟨⟨b⟩⟩ => decide (a = b)
 | .agg ⟨xs⟩, .agg ⟨ys⟩ => (eqVs xs ys).getD false
 | _, _ => false
def isKey (P : Program) (k : TypeId) (v : Value) : Bool :=
 match P.underlying k, v with
 | some (.int q), .int q' _ => q == q'
 | some .string, .string _ => true
 | some (.struct fs), .agg cs => plainStruct P k && fitsK P fs.toList cs.toList
 | _, _ => false
where fitsK (P : Program) : List Field → List Value → Bool
 | [], [] => true
 | f :: fs, .int q _ :: vs => (match P.underlying f.type with | some (.int q') => q == q' | _ => false) && fitsK P fs vs
 | f :: fs, .string _ :: vs => (match P.underlying f.type with | some .string => true | _ => false) && fitsK P fs vs
 | _, _ => false
section maps
variable {P : Program} {w : World} {D : Nat → Prop}
theorem fitsK_fits : ∀ (fs : List Field) (vs : List Value), isKey.fitsK P fs vs = true → fitsVs P fs vs = true
 | [], [], _ => rfl
 | [], _ :: _, h => by simp [isKey.fitsK] at h
 | f :: fs, [], h => by simp [isKey.fitsK] at h
 | f :: fs, v :: vs, h => by
  cases v <;> simp only [isKey.fitsK, Bool.and_eq_true, Bool.false_eq_true] at h
  ·simp only [fitsVs, fitsV, Bool.and_eq_true]
   refine ⟨?_, fitsK_fits fs vs h.2⟩
   have := h.1
   split at this <;> simp_all
  ·simp only [fitsVs, fitsV, Bool.and_eq_true]
   refine ⟨?_, fitsK_fits fs vs h.2⟩
   have := h.1
   split at this <;> simp_all
theorem fitsK_eq : ∀ (fs : List Field) (xs ys : List Value), isKey.fitsK P fs xs = true → isKey.fitsK P fs ys = true → ∃ b, eqVs xs ys = some b
  | [], [], [], _, _ => ⟨true, rfl⟩
  | [], _ :: _, _, h, _ => by simp [isKey.fitsK] at h
  | [], [], _ :: _, _, h => by simp [isKey.fitsK] at h
  | f :: fs, [], _, h, _ => by simp [isKey.fitsK] at h
  | f :: fs, _ :: _, [], _, h => by simp [isKey.fitsK] at h
  | f :: fs, x :: xs, y :: ys, h1, h2 => by
    cases x <;> simp only [isKey.fitsK, Bool.and_eq_true, Bool.false_eq_true] at h1 <;> cases y <;> simp only [isKey.fitsK, Bool.and_eq_true, Bool.false_eq_true] at h2
    · obtain ⟨b, hb⟩ := fitsK_eq fs xs ys h1.2 h2.2
      have e1 := h1.1; have e2 := h2.1
      cases hu : P.underlying f.type with
      | none => rw [hu] at e1; simp at e1
      | some d =>
        rw [hu] at e1 e2
        cases d <;> simp only [beq_iff_eq, Bool.false_eq_true] at e1 e2
        subst e1; subst e2
        exact ⟨_, by unfold eqVs; simp only [eqV, if_true, hb]; rfl⟩
    · have e1 := h1.1; have e2 := h2.1
      cases hu : P.underlying f.type with
      | none => rw [hu] at e1; simp at e1
      | some d => rw [hu] at e1 e2; cases d <;> simp_all
    · have e1 := h1.1; have e2 := h2.1
      cases hu : P.underlying f.type with
      | none => rw [hu] at e1; simp at e1
      | some d => rw [hu] at e1 e2; cases d <;> simp_all
    · obtain ⟨b, hb⟩ := fitsK_eq fs xs ys h1.2 h2.2
      rename_i s1 s2
      obtain ⟨⟨s1⟩⟩ := s1
      obtain ⟨⟨s2⟩⟩ := s2
      exact ⟨_, by unfold eqVs; simp only [eqV, hb]; rfl⟩
def mfind (k : Value) : List (Value × AV) → Option (Nat × AV)
 | [] => none
 | e :: es => if keyEq k e.1 then some (0, e.2) else (mfind k es).map fun p => (p.1 + 1, p.2)
def mget (es : List (Value × AV)) (k : Value) : Option AV := (mfind k es).map (·.2)
def mput (es : List (Value × AV)) (k : Value) (v : AV) : List (Value × AV) :=
 match mfind k es with
 | some (i, _) => es.set i (k, v)
 | none => es ++ [(k, v)]
def efind (k : Value) : List MapEntry → Nat → Option (Nat × Value)
 | [], _ => none
 | e :: es, i => if keyEq k e.key then some (i, e.val) else efind k es (i + 1)
theorem findNow_int {q : IntKind} {n : Int} : ∀ (ents : List MapEntry) (i : Nat), (∀ e ∈ ents, ∃ m, e.key = .int q m) → Instr.findNow (.int q) (.int q n) ents i = some (efind (.int q n) ents i)
 | [], i, _ => rfl
 | e :: es, i, h => by
  obtain ⟨m, hm⟩ := h e (by simp)
  unfold Instr.findNow efind
  rw [hm]
  simp only [Instr.sameNow, if_true, keyEq]
  by_cases hnm : n = m
  ·subst hnm; simp
  ·have : (n == m) = false := by simpa using hnm
   simp only [this, hnm, decide_false, Bool.false_eq_true, if_false]
   exact findNow_int es (i + 1) (fun e he => h e (by simp [he]))
theorem findNow_string {n : List UInt8} : ∀ (ents : List MapEntry) (i : Nat), (∀ e ∈ ents, ∃ m, e.key = .string ⟨⟨m⟩⟩) → Instr.findNow .string (.string ⟨⟨n⟩⟩) ents i = some (efind (.string ⟨⟨n⟩⟩) ents i)
 | [], i, _ => rfl
 | e :: es, i, h => by
  obtain ⟨m, hm⟩ := h e (by simp)
  unfold Instr.findNow efind
  rw [hm]
  simp only [Instr.sameNow, keyEq]
  have hbe : ((⟨⟨n⟩⟩ : ByteArray) == ⟨⟨m⟩⟩) = decide (n = m) := by
   rw [beq_toListBytes, ByteArray.toList_eq, ByteArray.toList_eq, Bool.eq_iff_iff]; simp
  rw [hbe]
  by_cases hnm : n = m
  ·subst hnm; simp
  ·simp only [hnm, decide_false, Bool.false_eq_true, if_false]
   exact findNow_string es (i + 1) (fun e he => h e (by simp [he]))
theorem findAsking_struct {kt : TypeId} (hp : plainStruct P kt = true) {xs : List Value} (hx : isKey.fitsK P (P.fieldsOf kt).toList xs = true) : ∀ (ents : List MapEntry) (i : Nat), (∀ e ∈ ents, ∃ ys, e.key = .agg ⟨ys⟩ ∧ isKey.fitsK P (P.fieldsOf kt).toList ys = true) →
  (Instr.findAsking kt (.agg ⟨xs⟩) ents i).run P w = .ok (efind (.agg ⟨xs⟩) ents i) w
 | [], i, _ => rfl
 | e :: es, i, h => by
  obtain ⟨ys, hm, hy⟩ := h e (by simp)
  obtain ⟨b, hb⟩ := fitsK_eq _ xs ys hx hy
  unfold Instr.findAsking efind
  rw [hm]
  have hq : (Op.equal kt (.agg ⟨xs⟩) (.agg ⟨ys⟩)).run P w = .ok b w := eqStruct_run (w := w) hp (fitsK_fits _ _ hx) (eqVs_length _ _ _ hb) hb 9998
  simp only [keyEq, hb, Option.getD_some, Sem.run_bind, hq, Result.andThen_ok]
  cases b with
  | true => simp
  | false =>
   simp only [Bool.false_eq_true, if_false]
   exact findAsking_struct hp hx es (i + 1) (fun e he => h e (by simp [he]))
theorem findKey_run {kt : TypeId} {k : Value} (hk : isKey P kt k = true) (ents : List MapEntry) (he : ∀ e ∈ ents, isKey P kt e.key = true) : (Instr.findKey kt k ents).run P w = .ok (efind k ents 0) w := by
 unfold isKey at hk
 split at hk
 ·rename_i q q' n hu
  have : q = q' := by simpa using hk
  subst this
  have := findNow_int (n := n) ents 0 (fun e h => by
   have := he e h
   unfold isKey at this
   rw [hu] at this
   cases hkk : e.key <;> rw [hkk] at this <;> simp at this
   rename_i q2 m
   subst this
   exact ⟨m, rfl⟩)
  simp [Instr.findKey, run_underlying hu, this]
 ·rename_i s hu
  obtain ⟨⟨n⟩⟩ := s
  have := findNow_string (n := n) ents 0 (fun e h => by
   have := he e h
   unfold isKey at this
   rw [hu] at this
   cases hkk : e.key <;> rw [hkk] at this <;> simp at this
   rename_i s2
   obtain ⟨⟨m⟩⟩ := s2
   exact ⟨m, rfl⟩)
  simp [Instr.findKey, run_underlying hu, this]
 ·rename_i fs cs hu
  obtain ⟨xs⟩ := cs
  simp only [Bool.and_eq_true] at hk
  have hfo : P.fieldsOf kt = fs := by simp [Program.fieldsOf, hu]
  have hx : isKey.fitsK P (P.fieldsOf kt).toList xs = true := by rw [hfo]; exact hk.2
  have hents : ∀ e ∈ ents, ∃ ys, e.key = .agg ⟨ys⟩ ∧ isKey.fitsK P (P.fieldsOf kt).toList ys = true := fun e h => by
   have := he e h
   unfold isKey at this
   rw [hu] at this
   cases hkk : e.key <;> rw [hkk] at this <;> simp at this
   rename_i ys
   obtain ⟨ys⟩ := ys
   exact ⟨ys, rfl, by rw [hfo]; exact this.2⟩
  have := findAsking_struct (w := w) hk.1 hx ents 0 hents
  unfold Instr.findKey
  simp only [Sem.run_bind, run_underlying hu, Result.andThen_ok]
  cases ents with
  | nil => simp [Instr.findNow, efind]
  | cons e es =>
   obtain ⟨ys, hm, _⟩ := hents e (by simp)
   have hn : Instr.findNow (.struct fs) (.agg ⟨xs⟩) (e :: es) 0 = none := by unfold Instr.findNow; rw [hm]; rfl
   rw [hn]
   exact this
 ·cases hk
theorem efind_mfind {D : Nat → Prop} {k : Value} : ∀ (es : List (Value × AV)) (ents : List MapEntry) (i : Nat), ents.map (·.key) = es.map (·.1) → VRs w D (es.map (·.2)) (ents.map (·.val)) →
  (mfind k es = none ∧ efind k ents i = none) ∨ ∃ j v u, mfind k es = some (j, v) ∧ efind k ents i = some (i + j, u) ∧ VR w D v u ∧ j < es.length ∧ ∃ e, ents[j]? = some e ∧ keyEq k e.key = true
 | [], [], i, h1, h2 => .inl ⟨rfl, rfl⟩
 | [], _ :: _, i, h1, h2 => by simp at h1
 | _ :: _, [], i, h1, h2 => by simp at h1
 | x :: es, e :: ents, i, h1, h2 => by
  simp only [List.map_cons, List.cons.injEq] at h1
  obtain ⟨u, us, hu, h3, h4⟩ := h2.cons_inv
  simp only [List.map_cons, List.cons.injEq] at hu
  obtain ⟨rfl, rfl⟩ := hu
  unfold mfind efind
  rw [h1.1]
  by_cases hk : keyEq k x.1 = true
  ·rw [if_pos hk, if_pos hk]
   exact .inr ⟨0, x.2, e.val, rfl, rfl, h3, by simp, e, rfl, by rw [h1.1]; exact hk⟩
  ·rw [if_neg hk, if_neg hk]
   rcases efind_mfind es ents (i + 1) h1.2 h4 with ⟨a1, a2⟩ | ⟨j, v, u, a1, a2, a3, a4, e', a5, a6⟩
   ·exact .inl ⟨by rw [a1]; rfl, a2⟩
   ·exact .inr ⟨j + 1, v, u, by rw [a1]; rfl, by rw [a2]; congr 2; omega, a3, by simp; omega, e', by simpa using a5, a6⟩
theorem checkKey_run' (b : Bool) {kt : TypeId} {k : Value} (hk : isKey P kt k = true) (N : Nat) : (Instr.checkKey b (N + 1 + 1) kt k).run P w = .ok () w := by
  unfold isKey at hk
  split at hk
  · rename_i q q' n hu
    simp [Instr.checkKey, run_underlying hu]
  · rename_i s hu
    simp [Instr.checkKey, run_underlying hu]
  · rename_i fs cs hu
    simp only [Bool.and_eq_true] at hk
    have hpf : plainFields P 0 fs.toList = true := by
      have := hk.1; unfold plainStruct at this; rw [hu] at this; simp only [Bool.and_eq_true] at this; exact this.1
    rw [Instr.checkKey]
    simp only [Sem.run_bind, run_underlying hu, Result.andThen_ok]
    rw [← Array.forIn_toList]
    have key : ∀ (l : List Field) (n : Nat), plainFields P n l = true → (∀ (i : Nat) (f : Field), l[i]? = some f → ∃ v, cs[n + i]? = some v ∧ fitsV P f.type v = true) → (forIn l PUnit.unit (fun (f : Field) (r : PUnit) => (do
        if f.name ≠ "_" then
          let __do_lift ← part f.type cs f.offset
          Instr.checkKey b (N + 1) f.type __do_lift
          pure (ForInStep.yield PUnit.unit)
        else pure (ForInStep.yield PUnit.unit) : Sem (ForInStep PUnit)))).run P w = .ok PUnit.unit w := by
      intro l
      induction l with
      | nil => intro n _ _; rfl
      | cons f fs ih =>
        intro n hp hv
        simp only [plainFields, Bool.and_eq_true, beq_iff_eq, bne_iff_ne, ne_eq] at hp
        obtain ⟨⟨⟨p1, p2⟩, p3⟩, p4⟩ := hp
        obtain ⟨v, h1, h2⟩ := hv 0 f rfl
        simp only [Nat.add_zero] at h1
        have hck : (Instr.checkKey b (N + 1) f.type v).run P w = .ok () w := by
          unfold basicT at p3
          cases hd : P.underlying f.type with
          | none => rw [hd] at p3; simp at p3
          | some d =>
            rw [hd] at p3
            cases d <;> simp at p3 <;> simp [Instr.checkKey, run_underlying hd]
        rw [List.forIn_cons]
        simp only [Sem.run_bind]
        rw [if_pos (show f.name ≠ "_" from p2)]
        simp only [Sem.run_bind, p1, part_basic p3 h1, Result.andThen_ok, hck, Sem.run_pure]
        exact ih (n + 1) p4 (fun i g hg => by
          obtain ⟨v', h3, h4⟩ := hv (i + 1) g (by simpa using hg)
          exact ⟨v', by rw [← h3]; congr 1; omega, h4⟩)
    have hfit := fitsK_fits _ _ hk.2
    have hfv : ∀ (l : List Field) (vs : List Value), fitsVs P l vs = true → ∀ (i : Nat) (f : Field), l[i]? = some f → ∃ v, vs[i]? = some v ∧ fitsV P f.type v = true := by
      intro l
      induction l with
      | nil => intro vs _ i f h; simp at h
      | cons g l ih =>
        intro vs h i f hf
        cases vs with
        | nil => simp [fitsVs] at h
        | cons v vs =>
          simp only [fitsVs, Bool.and_eq_true] at h
          cases i with
          | zero => simp at hf; subst hf; exact ⟨v, rfl, h.1⟩
          | succ i => exact ih vs h.2 i f (by simpa using hf)
    have := key fs.toList 0 hpf (fun i f hf => by
      obtain ⟨v, h1, h2⟩ := hfv _ _ hfit i f hf
      exact ⟨v, by rw [Nat.zero_add]; simpa using h1, h2⟩)
    rw [this]
    rfl
  · exact absurd hk (by simp)
theorem checkKey_run (b : Bool) {kt : TypeId} {k : Value} (hk : isKey P kt k = true) : (Instr.checkKey b 10000 kt k).run P w = .ok () w := checkKey_run' b hk 9998
theorem eqV_eq {x y : Value} {b : Bool} (h : eqV x y = some b) : b = true → x = y := by
  unfold eqV at h
  split at h
  · split at h
    · rename_i hk; injection h with h; subst h; subst hk; intro e; rw [of_decide_eq_true e]
    · cases h
  · injection h with h; subst h; intro e; rw [eq_of_beq e]
  · injection h with h; subst h; intro e; rw [of_decide_eq_true e]
  · cases h
theorem eqVs_eq : ∀ (xs ys : List Value), eqVs xs ys = some true → xs = ys
 | [], [], _ => rfl
 | [], _ :: _, h => by simp [eqVs] at h
 | _ :: _, [], h => by simp [eqVs] at h
 | x :: xs, y :: ys, h => by
  unfold eqVs at h
  cases h1 : eqV x y with
  | none => rw [h1] at h; simp at h
  | some c =>
   cases h2 : eqVs xs ys with
   | none => rw [h1, h2] at h; simp at h
   | some c2 =>
    rw [h1, h2] at h
    simp only [Option.some.injEq, Bool.and_eq_true] at h
    rw [eqV_eq h1 h.1, eqVs_eq xs ys (by rw [h2, h.2])]
theorem eqVs_refl : ∀ (fs : List Field) (xs : List Value), isKey.fitsK P fs xs = true → eqVs xs xs = some true
  | [], [], _ => rfl
  | [], _ :: _, h => by simp [isKey.fitsK] at h
  | f :: fs, [], h => by simp [isKey.fitsK] at h
  | f :: fs, x :: xs, h => by
    cases x <;> simp only [isKey.fitsK, Bool.and_eq_true, Bool.false_eq_true] at h
    · unfold eqVs; simp [eqV, eqVs_refl fs xs h.2]
    · rename_i s; obtain ⟨⟨s⟩⟩ := s; unfold eqVs; simp [eqV, eqVs_refl fs xs h.2]
theorem keyEq_eq {kt : TypeId} {k k' : Value} (h1 : isKey P kt k = true) (h2 : isKey P kt k' = true) : keyEq k k' = true ↔ k = k' := by
  unfold isKey at h1 h2
  split at h1
  · rename_i q q' n hu
    rw [hu] at h2
    cases k' <;> simp at h2
    simp only [beq_iff_eq] at h1
    subst h1; subst h2
    simp [keyEq]
  · rename_i s hu
    rw [hu] at h2
    cases k' <;> simp at h2
    rename_i s2
    obtain ⟨⟨s⟩⟩ := s; obtain ⟨⟨s2⟩⟩ := s2
    simp [keyEq]
  · rename_i fs cs hu
    rw [hu] at h2
    cases k' <;> simp at h2
    rename_i cs2
    obtain ⟨cs⟩ := cs; obtain ⟨cs2⟩ := cs2
    simp only [Bool.and_eq_true] at h1
    obtain ⟨b, hb⟩ := fitsK_eq fs.toList cs cs2 h1.2 h2.2
    simp only [keyEq, hb, Option.getD_some]
    constructor
    · intro e; subst e; rw [eqVs_eq cs cs2 hb]
    · intro e
      injection e with e
      injection e with e
      subst e
      have := eqVs_refl fs.toList cs h1.2
      rw [this] at hb; injection hb with hb; exact hb.symm
  · cases h1
theorem beq_bytes (s : ByteArray) : (s == s) = true := by rw [beq_toListBytes]; simp
theorem sameBits_refl {kt : TypeId} {k : Value} (h1 : isKey P kt k = true) (N : Nat) : Instr.sameBits (N + 1) k k = true := by
  unfold isKey at h1
  split at h1
  · simp [Instr.sameBits]
  · simp [Instr.sameBits, beq_bytes]
  · rename_i fs cs hu
    simp only [Bool.and_eq_true] at h1
    have key : ∀ (l : List Field) (vs : List Value), isKey.fitsK P l vs = true → ∀ v ∈ vs, Instr.sameBits N v v = true := by
      intro l
      induction l with
      | nil => intro vs h v hv; cases vs <;> simp [isKey.fitsK] at h hv
      | cons f l ih =>
        intro vs h v hv
        cases vs with
        | nil => cases hv
        | cons x vs =>
          cases x <;> simp only [isKey.fitsK, Bool.and_eq_true, Bool.false_eq_true] at h
          all_goals
            rcases List.mem_cons.1 hv with rfl | hv
            · cases N <;> simp [Instr.sameBits, beq_bytes]
            · exact ih vs h.2 v hv
    have := key fs.toList cs.toList h1.2
    simp only [Instr.sameBits, Bool.and_eq_true, beq_self_eq_true, true_and, List.all_eq_true]
    intro p hp
    obtain ⟨i, hi⟩ := List.mem_iff_getElem?.1 hp
    rw [List.getElem?_zip_eq_some] at hi
    have e : p.1 = p.2 := by
      have h3 := hi.1; have h4 := hi.2
      rw [h3] at h4; injection h4
    obtain ⟨p1, p2⟩ := p
    simp only at e ⊢
    subst e
    exact this p1 (List.mem_of_getElem? hi.1)
  · cases h1
def litV : AV → Option Value
 | .lit v => some v
 | .agg cs => (litVs cs).map fun us => .agg ⟨us⟩
 | _ => none
where litVs : List AV → Option (List Value)
 | [] => some []
 | .lit v :: r => (litVs r).map (v :: ·)
 | _ :: _ => none
theorem litVs_map : ∀ (cs : List AV) (us : List Value), litV.litVs cs = some us → cs = us.map .lit
  | [], us, h => by simp [litV.litVs] at h; subst h; rfl
  | x :: r, us, h => by
    cases x <;> simp only [litV.litVs, reduceCtorEq] at h
    cases hr : litV.litVs r with
    | none => rw [hr] at h; cases h
    | some vs =>
      rw [hr] at h
      simp only [Option.map_some, Option.some.injEq] at h
      subst h
      rw [litVs_map r vs hr]; rfl
theorem VR.litV {x : AV} {v u : Value} (h : VR w D x u) (hx : Go.Vc.litV x = some v) : u = v := by
  cases x <;> simp only [Go.Vc.litV, Option.some.injEq, reduceCtorEq] at hx
  · subst hx; exact h.lit_inv
  · rename_i cs
    cases hc : Go.Vc.litV.litVs cs with
    | none => rw [hc] at hx; cases hx
    | some us =>
      rw [hc] at hx
      simp only [Option.map_some, Option.some.injEq] at hx
      subst hx
      have := litVs_map cs us hc
      subst this
      obtain ⟨us', rfl, g⟩ := h.agg_inv
      rw [g.lits]
def keysOk (P : Program) (kt : TypeId) (es : List (Value × AV)) : Prop := ∀ e ∈ es, isKey P kt e.1 = true
section mapops
variable {o : Oper} {env : Env} {H : Heap} {K : AV → Heap → Prop} {E : List PanicEntry → Heap → Prop}
theorem Exact.lookup {mt kt et : TypeId} {m k : Operand} {g : Nat} {es : List (Value × AV)} {kv : Value} {v : AV} {ok : Bool} (ho : o.op = .lookup mt m k ok) (hu : P.underlying mt = some (.map kt et)) (hm : env.ev m = .lit (.map (some g))) (hg : H g = some (.map es)) (hkv : litV (env.ev k) = some kv)
    (hik : isKey P kt kv = true) (hes : keysOk P kt es) (hf : mget es kv = some v) : Exact P o env H (match ok with | true => .tup [v, .lit (.bool true)] | false => v) := by
  apply vB (by simp [noDefer, ho])
  intro a w ⟨hr, hh⟩
  rw [ho] at hr
  have e0 := hr m (by simp [Op.operands])
  have e1 := hr k (by simp [Op.operands])
  rw [hm] at e0
  have e0 := e0.lit_inv
  have e1 := e1.litV hkv
  obtain ⟨ents, clock, h1, h2, h3, h4, h5⟩ := hh g _ hg
  have hents : ∀ e ∈ ents, isKey P kt e.key = true := fun e he => by
    have : e.key ∈ es.map (·.1) := by rw [← h2]; exact List.mem_map.2 ⟨e, he, rfl⟩
    obtain ⟨x, hx, hxe⟩ := List.mem_map.1 this
    rw [← hxe]; exact hes x hx
  have hfk := findKey_run (w := w) hik ents hents
  rcases efind_mfind es ents 0 h2 h3 with ⟨q1, q2⟩ | ⟨j, v', u, q1, q2, q3, q4, q5⟩
  · unfold mget at hf; rw [q1] at hf; cases hf
  · unfold mget at hf
    rw [q1] at hf
    simp only [Option.map_some, Option.some.injEq] at hf
    subst hf
    rw [q2] at hfk
    have hobj : (getObj g).run P w = .ok (.map ents.toArray clock) w := by simp [getObj, Sem.run, h1]
    have hrun : (Instr.lookup mt (.map (some g)) kv ok).run P w = .ok (if ok then .tuple #[u, .bool true] else u) w := by
      simp only [Instr.lookup, Sem.run_bind, run_underlying hu, Result.andThen_ok, hobj, Sem.run_pure, checkKey_run _ hik, hfk]
    refine ⟨if ok then .tuple #[u, .bool true] else u, by unfold execOp; rw [ho]; simp only [e0, e1, Sem.run_bind, hrun, Result.andThen_ok, Sem.run_pure], ?_⟩
    cases ok with
    | true =>
      have := VRs.cons q3 (VRs.cons (VR.lit (.bool true)) VRs.nil)
      exact VR.tup _ this.1 this.2
    | false => exact q3
def zeroV (P : Program) (t : TypeId) : Option Value := (P.info? t).bind (·.zero)
theorem Exact.lookup_none {mt kt et : TypeId} {m k : Operand} {g : Nat} {es : List (Value × AV)} {kv z : Value} {ok : Bool} (ho : o.op = .lookup mt m k ok) (hu : P.underlying mt = some (.map kt et)) (hz : zeroV P et = some z) (hm : env.ev m = .lit (.map (some g))) (hg : H g = some (.map es)) (hkv : litV (env.ev k) = some kv)
    (hik : isKey P kt kv = true) (hes : keysOk P kt es) (hf : mget es kv = none) : Exact P o env H (match ok with | true => .tup [ofConst z, .lit (.bool false)] | false => ofConst z) := by
  apply vB (by simp [noDefer, ho])
  intro a w ⟨hr, hh⟩
  rw [ho] at hr
  have e0 := hr m (by simp [Op.operands])
  have e1 := hr k (by simp [Op.operands])
  rw [hm] at e0
  have e0 := e0.lit_inv
  have e1 := e1.litV hkv
  obtain ⟨ents, clock, h1, h2, h3, h4, h5⟩ := hh g _ hg
  have hents : ∀ e ∈ ents, isKey P kt e.key = true := fun e he => by
    have : e.key ∈ es.map (·.1) := by rw [← h2]; exact List.mem_map.2 ⟨e, he, rfl⟩
    obtain ⟨x, hx, hxe⟩ := List.mem_map.1 this
    rw [← hxe]; exact hes x hx
  have hfk := findKey_run (w := w) hik ents hents
  have hzv : (zeroValue et).run P w = .ok z w := by
    unfold zeroV at hz
    cases hi : P.info? et with
    | none => rw [hi] at hz; cases hz
    | some i => rw [hi] at hz; simp only [Option.bind_some] at hz; simp [zeroValue, typeInfo, hi, hz]
  rcases efind_mfind es ents 0 h2 h3 with ⟨q1, q2⟩ | ⟨j, v', u, q1, q2, q3, q4, q5⟩
  · rw [q2] at hfk
    have hobj : (getObj g).run P w = .ok (.map ents.toArray clock) w := by simp [getObj, Sem.run, h1]
    have hrun : (Instr.lookup mt (.map (some g)) kv ok).run P w = .ok (if ok then .tuple #[z, .bool false] else z) w := by
      simp only [Instr.lookup, Sem.run_bind, run_underlying hu, Result.andThen_ok, hobj, Sem.run_pure, checkKey_run _ hik, hfk, hzv]
    refine ⟨if ok then .tuple #[z, .bool false] else z, by unfold execOp; rw [ho]; simp only [e0, e1, Sem.run_bind, hrun, Result.andThen_ok, Sem.run_pure], ?_⟩
    cases ok with
    | true =>
      have := VRs.cons (VR.ofConst (w := w) (D := H.dom) z) (VRs.cons (VR.lit (.bool false)) VRs.nil)
      exact VR.tup _ this.1 this.2
    | false => exact VR.ofConst z
  · unfold mget at hf; rw [q1] at hf; cases hf
theorem WpO.mapUpdate {mt kt et : TypeId} {m k x : Operand} {g : Nat} {es : List (Value × AV)} {kv : Value} {v : AV} (ho : o.op = .mapUpdate mt m k x) (hu : P.underlying mt = some (.map kt et)) (hm : env.ev m = .lit (.map (some g))) (hg : H g = some (.map es)) (hkv : litV (env.ev k) = some kv) (hx : env.ev x = v)
  (hik : isKey P kt kv = true) (hes : keysOk P kt es) (hk : K (.lit undef) (H.set g (.map (mput es kv v)))) : WpO P o env H K E := by
 apply WpO.of_skip (by simp [noDefer, ho])
 intro a w ⟨hr, hh⟩
 rw [ho] at hr
 have e0 := hr m (by simp [Op.operands])
 have e1 := hr k (by simp [Op.operands])
 have e2 := hr x (by simp [Op.operands])
 rw [hm] at e0; rw [hx] at e2
 have e0 := e0.lit_inv
 have e1 := e1.litV hkv
 obtain ⟨ents, clock, h1, h2, h3, h4, h5⟩ := hh g _ hg
 have hents : ∀ e ∈ ents, isKey P kt e.key = true := fun e he => by
  have : e.key ∈ es.map (·.1) := by rw [← h2]; exact List.mem_map.2 ⟨e, he, rfl⟩
  obtain ⟨x, hx, hxe⟩ := List.mem_map.1 this
  rw [← hxe]; exact hes x hx
 have hfk := findKey_run (w := w) hik ents hents
 have hobj : (getObj g).run P w = .ok (.map ents.toArray clock) w := by simp [getObj, Sem.run, h1]
 have hgd : H.dom g := ⟨_, hg, rfl⟩
 have hlt := (Array.getElem?_eq_some_iff.1 h1).1
 have hset : ∀ ob : Obj, (setObj g ob).run P w = .ok () { w with heap := w.heap.setIfInBounds g ob } := fun ob => by simp [setObj, Sem.run, h1]
 have hnew : ∀ ob : Obj, ({ w with heap := w.heap.setIfInBounds g ob } : World).heap[g]? = some ob := fun ob => by simp [hlt]
 have hold : ∀ (ob : Obj) (j : Nat), j ≠ g → ({ w with heap := w.heap.setIfInBounds g ob } : World).heap[j]? = w.heap[j]? := fun ob j hj => by
  show (w.heap.setIfInBounds g ob)[j]? = _
  rw [Array.getElem?_setIfInBounds_ne (Ne.symm hj)]
 have hev : ∀ (ob : Obj), Evol H w (H.set g (.map (mput es kv v))) { w with heap := w.heap.setIfInBounds g ob } := fun ob =>
  Evol.write _ hgd rfl rfl rfl (by simp) (fun j hj => hold ob j hj)
 rcases efind_mfind es ents 0 h2 h3 with ⟨q1, q2⟩ | ⟨j, v', u, q1, q2, q3, q4, e', q5, q6⟩
 ·rw [q2] at hfk
  refine ⟨_, _, ?_, hev (.map (ents ++ [({ key := kv, val := a.eval x, born := clock } : MapEntry)]).toArray (clock + 1)), ?_, hk⟩
  ·unfold execOp; rw [ho]
   have : (ents.toArray.push ({ key := kv, val := a.eval x, born := clock } : MapEntry)) = (ents ++ [({ key := kv, val := a.eval x, born := clock } : MapEntry)]).toArray := by apply Array.ext'; simp
   simp only [e0, e1, Instr.mapUpdate, Sem.run_bind, run_underlying hu, Result.andThen_ok, hobj, checkKey_run _ hik, hfk, hset, Sem.run_pure, this]
  ·refine vU _ hh (hev _) (fun j hj => hold _ j hj) ⟨_, _, hnew _, ?_, ?_, ?_, ?_⟩
   ·simp [mput, q1, h2]
   ·have hq : mput es kv v = es ++ [(kv, v)] := by unfold mput; rw [q1]
    rw [hq, List.map_append, List.map_append]
    exact ((h3.append (VRs.cons e2 .nil))).evol (hq ▸ hev _)
   ·intro e he
    rcases List.mem_append.1 he with h | h
    ·have := h4 e h; omega
    ·simp at h; subst h; simp
   ·rw [List.map_append, List.nodup_append]
    refine ⟨h5, by simp, fun b hb c hc => ?_⟩
    simp at hc; subst hc
    obtain ⟨e, he, rfl⟩ := List.mem_map.1 hb
    have := h4 e he; omega
 ·rw [Nat.zero_add] at q2
  rw [q2] at hfk
  have hjl : j < ents.length := (List.getElem?_eq_some_iff.1 q5).1
  have hke : e'.key = kv := ((keyEq_eq hik (hents e' (List.mem_of_getElem? q5))).1 q6).symm
  have hst : (Instr.keyThatStays (((ents.toArray[j]?).map (·.key)).getD kv) kv).run P w = .ok kv w := by
   have : ents.toArray[j]? = some e' := by simpa using q5
   rw [this]
   simp only [Option.map_some, Option.getD_some, hke, Instr.keyThatStays, sameBits_refl hik 9999, if_true]
   rfl
  refine ⟨_, _, ?_, hev (.map (ents.set j { e' with key := kv, val := a.eval x }).toArray clock), ?_, hk⟩
  ·unfold execOp; rw [ho]
   have : (ents.toArray.modify j fun e => { e with key := kv, val := a.eval x }) = (ents.set j { e' with key := kv, val := a.eval x }).toArray := by
    apply Array.ext'
    apply List.ext_getElem?
    intro i
    simp only [Array.toList_modify, List.getElem?_modify, List.getElem?_set]
    by_cases hij : j = i
    ·subst hij; simp [hjl, (List.getElem?_eq_some_iff.1 q5).2]
    ·simp [hij]
   simp only [e0, e1, Instr.mapUpdate, Sem.run_bind, run_underlying hu, Result.andThen_ok, hobj, checkKey_run _ hik, hfk, hst, hset, Sem.run_pure, this]
  ·have hq : mput es kv v = es.set j (kv, v) := by unfold mput; rw [q1]
   refine vU _ hh (hev _) (fun j hj => hold _ j hj) ⟨_, _, hnew _, ?_, ?_, ?_, ?_⟩
   ·rw [hq, List.map_set, List.map_set, h2]
   ·rw [hq, List.map_set, List.map_set]
    exact (h3.set j e2).evol (hq ▸ hev _)
   ·intro e he
    rcases List.mem_or_eq_of_mem_set he with h | h
    ·exact h4 e h
    ·subst h; exact h4 e' (List.mem_of_getElem? q5)
   ·have : (ents.set j { e' with key := kv, val := a.eval x }).map (·.born) = ents.map (·.born) := by
     rw [List.map_set]
     apply List.ext_getElem?
     intro i
     rw [List.getElem?_set]
     by_cases hij : j = i
     ·subst hij; simp [hjl, (List.getElem?_eq_some_iff.1 q5).2]
     ·simp [hij]
    rw [this]; exact h5
end mapops
end maps
end Go.Vc
