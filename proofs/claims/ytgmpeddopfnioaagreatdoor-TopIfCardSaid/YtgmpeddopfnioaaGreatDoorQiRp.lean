/-
  Part of the proof of If.
-/
import Derived.Test.YtgmpeddopfnioaaGreatDoorQiRu

set_option linter.unusedVariables false
set_option linter.unusedSimpArgs false
namespace Go.Vc
open Go
section draw
variable {P : Program} {N : Nat} {ops : Array Oper} {Q : QC} {Inv : Heap → Prop}
def WpPj (P : Program) (N : Nat) (ops : Array Oper) (Inv : Heap → Prop) (Q : QC) (cls : Nat → Cls) : List Nat → Env → Heap → Prop
 | [], env, H => Q .normal env H
 | i :: r, env, H => ∃ o, ops[i]? = some o ∧ dstOk N o = true ∧ (match cls i with
  | .I => ∃ v, (∀ H', Inv H' → ExactG P ops o env H' v) ∧ WpPj P N ops Inv Q cls r (env.put o.dst v) H
  | .S => ∃ v, ExactG P ops o env H v ∧ WpPj P N ops Inv Q cls r (env.put o.dst v) H
  | .E => (guardOf ops env o = some true ∧ WpO P o env H (fun v H' => (Inv H' ∨ r = []) ∧ WpPj P N ops Inv Q cls r (env.put o.dst v) H') (panQ Q)) ∨ (guardOf ops env o = some false ∧ WpPj P N ops Inv Q cls r (env.put o.dst (.lit undef)) H))
theorem WpPj.first {cls : Nat → Cls} {i : Nat} {oi : Oper} (hi : ops[i]? = some oi) : ∀ (pre post : List Nat) (env : Env) (H : Heap), Inv H → (∀ k ∈ pre, freeOf ops cls i k) → WpPj P N ops Inv Q cls (pre ++ i :: post) env H →
    dstOk N oi = true ∧ (match cls i with
    | .I => ∃ v, (∀ H', Inv H' → ExactG P ops oi env H' v) ∧ WpPj P N ops Inv Q cls (pre ++ post) (env.put oi.dst v) H
    | .S => ∃ v, ExactG P ops oi env H v ∧ WpPj P N ops Inv Q cls (pre ++ post) (env.put oi.dst v) H
    | .E => (guardOf ops env oi = some true ∧ WpO P oi env H (fun v H' => (Inv H' ∨ post = []) ∧ WpPj P N ops Inv Q cls (pre ++ post) (env.put oi.dst v) H') (panQ Q)) ∨ (guardOf ops env oi = some false ∧ WpPj P N ops Inv Q cls (pre ++ post) (env.put oi.dst (.lit undef)) H))
  | [], post, env, H, hI, hf, h => by
    obtain ⟨o, ho, hd, h⟩ := h
    rw [hi] at ho; injection ho with ho; subst ho
    exact ⟨hd, h⟩
  | k :: pre, post, env, H, hI, hf, h => by
    obtain ⟨ok, hok, hdk, h⟩ := h
    obtain ⟨hap, hne, hE⟩ := hf k (by simp) oi ok hi hok
    obtain ⟨a1, a2, a3⟩ := Oper.apart_spec hap
    have ih := fun env hh => WpPj.first hi pre post env H hI (fun k hk => hf k (by simp [hk])) hh
    -- k's own step, at whichever heap
    have step : ∀ vk, ExactG P ops ok env H vk → (cls k = .I → ∀ H', Inv H' → ExactG P ops ok env H' vk) → WpPj P N ops Inv Q cls (pre ++ i :: post) (env.put ok.dst vk) H →
        dstOk N oi = true ∧ (match cls i with
        | .I => ∃ v, (∀ H', Inv H' → ExactG P ops oi env H' v) ∧ WpPj P N ops Inv Q cls (k :: pre ++ post) (env.put oi.dst v) H
        | .S => ∃ v, ExactG P ops oi env H v ∧ WpPj P N ops Inv Q cls (k :: pre ++ post) (env.put oi.dst v) H
        | .E => (guardOf ops env oi = some true ∧ WpO P oi env H (fun v H' => (Inv H' ∨ post = []) ∧ WpPj P N ops Inv Q cls (k :: pre ++ post) (env.put oi.dst v) H') (panQ Q)) ∨ (guardOf ops env oi = some false ∧ WpPj P N ops Inv Q cls (k :: pre ++ post) (env.put oi.dst (.lit undef)) H)) := by
      intro vk hk hkI hr
      obtain ⟨hd, hr⟩ := ih _ hr
      refine ⟨hd, ?_⟩
      have back : ∀ (v : AV) (H' : Heap), (cls k = .I ∨ H' = H) → WpPj P N ops Inv Q cls (pre ++ post) ((env.put ok.dst vk).put oi.dst v) H' → WpPj P N ops Inv Q cls (k :: pre ++ post) (env.put oi.dst v) H' := by
        intro v H' hh hw
        refine ⟨ok, hok, hdk, ?_⟩
        rw [put_comm a2] at hw
        have ag := put_agree (ops := ops) (x := oi) (y := ok) a3 env v
        cases hc : cls k with
        | I => exact ⟨vk, fun H'' hi' => (hkI hc H'' hi').agree ag, hw⟩
        | S =>
          rcases hh with hh | hh
          · rw [hc] at hh; cases hh
          · subst hh; exact ⟨vk, hk.agree ag, hw⟩
        | E => exact (hne hc).elim
      have agi := (put_agree (ops := ops) (x := ok) (y := oi) a1 env vk).symm
      cases hci : cls i with
      | I => rw [hci] at hr; obtain ⟨v, h1, h2⟩ := hr; exact ⟨v, fun H' hi' => (h1 H' hi').agree agi, back v H (.inr rfl) h2⟩
      | S => rw [hci] at hr; obtain ⟨v, h1, h2⟩ := hr; exact ⟨v, h1.agree agi, back v H (.inr rfl) h2⟩
      | E =>
        rw [hci] at hr
        rcases hr with ⟨h1, h2⟩ | ⟨h1, h2⟩
        · exact .inl ⟨(guardOf_agree agi) ▸ h1, (h2.agree agi).mono (fun v H' hw => ⟨hw.1, back v H' (.inl (hE hci)) hw.2⟩) (fun _ _ h => h)⟩
        · exact .inr ⟨(guardOf_agree agi) ▸ h1, back _ H (.inr rfl) h2⟩
    cases hc : cls k with
    | I => rw [hc] at h; obtain ⟨vk, h1, h2⟩ := h; exact step vk (h1 H hI) (fun _ => h1) h2
    | S => rw [hc] at h; obtain ⟨vk, h1, h2⟩ := h; exact step vk h1 (fun e => by rw [hc] at e; cases e) h2
    | E => exact (hne hc).elim
theorem draw_mainJ {cls : Nat → Cls} {anc : Nat → List Nat} : ∀ (fuel : Nat) (rem : List Nat) (listed : Array Bool) (env : Env) (H : Heap), rem.length ≤ fuel → Rem ops cls anc listed rem → (∀ pre j, rem = pre ++ [j] → ∀ k ∈ pre, k ∈ anc j) → (Inv H ∨ rem = []) → WpPj P N ops Inv Q cls rem env H → ∀ (fr : Fr) (m : Nat) a w, Rel fr N env H a w →
    ∀ Q' : Exit → Act → World → Prop, (∀ e a' w', Post fr N H w Q e a' w' → Q' e a' w') → wpAnyIn (fen fr.round) m P .any ops Q' fuel listed a w := by
  intro fuel
  -- nothing may come up: nothing is left
  have done : ∀ (rem : List Nat) (listed : Array Bool), Rem ops cls anc listed rem → Region.ready .any ops listed = [] → rem = [] := by
    intro rem listed hr h0
    cases rem with
    | nil => rfl
    | cons i r =>
      exfalso
      obtain ⟨hi, hl⟩ := (hr.mem i).1 (by simp)
      have : i ∈ Region.ready .any ops listed := mem_ready'.2 ⟨ops[i], Array.getElem?_eq_getElem hi, hl, fun e he hb => by
        rcases hr.ahead [] i r rfl _ (Array.getElem?_eq_getElem hi) e he hb with h | h
        · cases h
        · exact h⟩
      rw [h0] at this; cases this
  induction fuel with
  | zero =>
    intro rem listed env H hl hr hL hI h fr m a w r Q' hq
    have : rem = [] := List.eq_nil_of_length_eq_zero (by omega)
    subst this
    refine ⟨?_, hq _ _ _ ⟨env, H, .refl _ _, r, h⟩⟩
    apply List.eq_nil_iff_forall_not_mem.2
    intro i hi
    obtain ⟨o, ho, h1, _⟩ := mem_ready'.1 hi
    have := (hr.mem i).2 ⟨(Array.getElem?_eq_some_iff.1 ho).1, h1⟩
    cases this
  | succ fuel ih =>
    intro rem listed env H hl hr hL hI h fr m a w r Q' hq
    refine ⟨fun h0 => ?_, fun i hi => ?_⟩
    · have := done rem listed hr h0
      subst this
      exact hq _ _ _ ⟨env, H, .refl _ _, r, h⟩
    · obtain ⟨oi, hoi, h1, h2⟩ := mem_ready'.1 hi
      have hsz := (Array.getElem?_eq_some_iff.1 hoi).1
      have hmem : i ∈ rem := (hr.mem i).2 ⟨hsz, h1⟩
      obtain ⟨pre, post, hrem⟩ := List.append_of_mem hmem
      subst hrem
      have hI : Inv H := hI.resolve_right (by simp)
      -- what comes ahead of it does not bind it
      have hanc : ∀ k ∈ anc i, listed.getD k true = true := by
        intro k hk
        obtain ⟨e, he, hb, hk⟩ := hr.direct i oi hoi k hk
        have hle := h2 e he hb
        have hlt : e.on < listed.size := by
          rcases Nat.lt_or_ge e.on listed.size with h | h
          · exact h
          · simp [Array.getD_eq_getD_getElem?, Array.getElem?_eq_none h] at hle
        have hle' : listed.getD e.on true = true := by
          simp only [Array.getD_eq_getD_getElem?, Array.getElem?_eq_getElem hlt, Option.getD_some] at hle ⊢; exact hle
        rcases hk with hk | hk
        · rw [← hk]; exact hle'
        · exact hr.shut _ (by rw [← hr.size]; exact hlt) hle' k hk
      have hpre : ∀ k ∈ pre, freeOf ops cls i k := by
        intro k hk
        have hp := List.pairwise_append.1 hr.pair
        rcases hp.2.2 k hk i (by simp) with h | h
        · have := ((hr.mem k).1 (by simp [hk])).2
          rw [hanc k h] at this; cases this
        · exact h
      obtain ⟨hd, hw⟩ := WpPj.first hoi pre post env H hI hpre h
      have hnd := hr.nodup
      have hrem' : Rem ops cls anc (listed.setIfInBounds i true) (pre ++ post) := by
        refine ⟨by simp [hr.size], fun k => ?_, ?_, ?_, ?_, hr.direct, ?_⟩
        · rw [getD_set _ _ _ _ (by rw [hr.size]; exact hsz)]
          have hm := hr.mem k
          rw [List.mem_append, List.mem_cons] at hm
          rw [List.mem_append]
          have hni : i ∉ pre ∧ i ∉ post := by
            rw [List.nodup_append] at hnd
            obtain ⟨_, h5, h6⟩ := hnd
            rw [List.nodup_cons] at h5
            exact ⟨fun h => h6 i h i (by simp) rfl, h5.1⟩
          by_cases hki : k = i
          · subst hki; simp [hni.1, hni.2]
          · simp only [hki, if_false, false_or] at hm ⊢; exact hm
        · rw [List.nodup_append] at hnd ⊢
          obtain ⟨h4, h5, h6⟩ := hnd
          exact ⟨h4, (List.nodup_cons.1 h5).2, fun a ha b hb => h6 a ha b (by simp [hb])⟩
        · have hp := List.pairwise_append.1 hr.pair
          exact List.pairwise_append.2 ⟨hp.1, (List.pairwise_cons.1 hp.2.1).2, fun a ha b hb => hp.2.2 a ha b (by simp [hb])⟩
        · intro k hk hlk j hj
          rw [getD_set _ _ _ _ (by rw [hr.size]; exact hsz)] at hlk ⊢
          split
          · rfl
          · split at hlk
            · rename_i hki; subst hki; exact hanc j hj
            · exact hr.shut k hk hlk j hj
        · intro pre' j post' he o ho e hea hb
          rw [getD_set _ _ _ _ (by rw [hr.size]; exact hsz)]
          -- where j stood
          have hj : ∃ p2 s2, pre ++ i :: post = p2 ++ j :: s2 ∧ ∀ x ∈ p2, x = i ∨ x ∈ pre' := by
            rcases List.append_eq_append_iff.1 he with ⟨c, h1, h2⟩ | ⟨c, h1, h2⟩
            · -- pre' = pre ++ c, post = c ++ j :: post'
              exact ⟨pre ++ i :: c, post', by rw [h2]; simp, fun x hx => by
                rw [h1]
                rcases List.mem_append.1 hx with h | h
                · exact .inr (by simp [h])
                · rcases List.mem_cons.1 h with h | h
                  · exact .inl h
                  · exact .inr (by simp [h])⟩
            · -- pre = pre' ++ c, j :: post' = c ++ post
              cases c with
              | nil =>
                simp only [List.append_nil, List.nil_append] at h1 h2
                exact ⟨pre ++ [i], post', by rw [← h2]; simp, fun x hx => by
                  rcases List.mem_append.1 hx with h | h
                  · exact .inr (by rw [← h1]; exact h)
                  · exact .inl (by simpa using h)⟩
              | cons y c =>
                simp only [List.cons_append, List.cons.injEq] at h2
                obtain ⟨rfl, h2⟩ := h2
                exact ⟨pre', c ++ i :: post, by rw [h1]; simp, fun x hx => .inr hx⟩
          obtain ⟨p2, s2, h3, h4⟩ := hj
          rcases hr.ahead p2 j s2 h3 o ho e hea hb with h | h
          · rcases h4 _ h with h | h
            · right; rw [if_pos h]
            · exact .inl h
          · right; split
            · rfl
            · exact h
      have hL' : ∀ pre' j, pre ++ post = pre' ++ [j] → ∀ k ∈ pre', k ∈ anc j := by
        intro pre' j he k hk
        cases post with
        | nil =>
          have hp0 : pre = [] := by
            cases pre with
            | nil => rfl
            | cons x xs =>
              have h8 := hL (x :: xs) i rfl x (by simp)
              have h9 := hanc x h8
              have h10 := ((hr.mem x).1 (by simp)).2
              rw [h9] at h10; cases h10
          subst hp0
          simp at he
        | cons y ys =>
          obtain ⟨zs, z, hz⟩ : ∃ zs z, y :: ys = zs ++ [z] := ⟨(y :: ys).dropLast, (y :: ys).getLast (by simp), (List.dropLast_concat_getLast (by simp)).symm⟩
          rw [hz, ← List.append_assoc] at he
          obtain ⟨h8, h9⟩ := List.append_inj' he rfl
          injection h9 with h9
          subst h9; subst h8
          refine hL (pre ++ i :: zs) z (by rw [hz]; simp) k ?_
          rcases List.mem_append.1 hk with h | h
          · exact List.mem_append.2 (.inl h)
          · exact List.mem_append.2 (.inr (List.mem_cons_of_mem _ h))
      have hend : post = [] → pre ++ post = [] := by
        intro hp; subst hp
        cases pre with
        | nil => rfl
        | cons x xs =>
          have h8 := hL (x :: xs) i rfl x (by simp)
          have h9 := hanc x h8
          have h10 := ((hr.mem x).1 (by simp)).2
          rw [h9] at h10; cases h10
      have hlen : (pre ++ post).length ≤ fuel := by
        have : (pre ++ i :: post).length = (pre ++ post).length + 1 := by simp; omega
        omega
      unfold wpOpIn
      rw [hoi]
      simp only
      -- an operation that leaves what is owned as it is
      have exact_ : ∀ v, ExactG P ops oi env H v → WpPj P N ops Inv Q cls (pre ++ post) (env.put oi.dst v) H →
          (if Region.wanted oi (yielded ops a.tmps) = true then oi.wpIn (fen fr.round) m P a w (wpAnyIn (fen fr.round) m P .any ops Q' fuel (listed.setIfInBounds i true)) Q' else (∀ f, oi.about P w a.eval = some f → (fen fr.round).fn f) ∧ wpAnyIn (fen fr.round) m P .any ops Q' fuel (listed.setIfInBounds i true) (a.put oi.dst undef) w) := by
        intro v hx hw
        rcases hx with ⟨hg, hx⟩ | ⟨hg, rfl⟩
        · rw [if_pos (r.guard hg)]
          refine hx fr.round m a w (r.opR oi) _ _ ?_ (fun _ _ _ _ _ h => h.elim)
          rintro v1 v' H' w' ev hh hv ⟨rfl, rfl⟩
          exact ih _ _ _ _ hlen hrem' hL' (.inl hI) hw fr m _ _ (r.put ev hh hd hv) Q' (fun e a' w2 hp => hq _ _ _ (hp.evol ev))
        · rw [if_neg (by rw [r.guard hg]; simp)]
          exact ⟨fun _ _ => trivial, ih _ _ _ _ hlen hrem' hL' (.inl hI) hw fr m _ _ (r.put (.refl _ _) r.heap hd (.lit undef)) Q' hq⟩
      cases hc : cls i with
      | I => rw [hc] at hw; obtain ⟨v, h4, h5⟩ := hw; exact exact_ v (h4 H hI) h5
      | S => rw [hc] at hw; obtain ⟨v, h4, h5⟩ := hw; exact exact_ v h4 h5
      | E =>
        rw [hc] at hw
        rcases hw with ⟨hg, hw⟩ | ⟨hg, hw⟩
        · rw [if_pos (r.guard hg)]
          refine hw fr.round m a w (r.opR oi) _ _ ?_ (fun ch H' w' ev hh he => hq _ _ _ ⟨env, H', ev, r.evol ev hh, he env⟩)
          intro v v' H' w' ev hh hv hw
          exact ih _ _ _ _ hlen hrem' hL' (hw.1.imp id hend) hw.2 fr m _ _ (r.put ev hh hd hv) Q' (fun e a' w2 hp => hq _ _ _ (hp.evol ev))
        · rw [if_neg (by rw [r.guard hg]; simp)]
          exact ⟨fun _ _ => trivial, ih _ _ _ _ hlen hrem' hL' (.inl hI) hw fr m _ _ (r.put (.refl _ _) r.heap hd (.lit undef)) Q' hq⟩
def lastOk (anc : List (List Nat)) (ord : List Nat) : Bool := match ord.getLast? with
 | none => true
 | some j => ord.dropLast.all fun k => (anc.getD j []).contains k
theorem lastOk_spec {anc : List (List Nat)} {ord : List Nat} (h : lastOk anc ord = true) : ∀ pre j, ord = pre ++ [j] → ∀ k ∈ pre, k ∈ anc.getD j [] := by
 rintro pre j rfl k hk
 unfold lastOk at h
 simp only [List.getLast?_append, List.getLast?_singleton, Option.some_or, List.dropLast_concat, List.all_eq_true, List.contains_iff_mem] at h
 exact h k hk
theorem WpC.drawJ {env : Env} {H : Heap} {id : Nat} {l : List Oper} (cs : List Cls) (ord : List Nat) (hm : P.follows .mixedOrders = true) (hok : drawOk l.toArray cs (ancOf l) ord = true) (hl : lastOk (ancOf l) ord = true) (hI : Inv H) (h : WpPj P N l.toArray Inv Q (clsAt cs) ord env H) : WpC P N (.region id l.toArray true) env H Q := fun fr n a w r => by
 simp only [drawOk, Bool.and_eq_true, beq_iff_eq, List.all_eq_true, List.mem_range] at hok
 obtain ⟨⟨⟨⟨⟨⟨h1, h2⟩, h3⟩, h4⟩, h5⟩, h6⟩, h7⟩ := hok
 have hmem : ∀ i < l.toArray.size, i ∈ ord := fun i hi => by simpa using h2 i hi
 have hrem : Rem l.toArray (clsAt cs) (fun i => (ancOf l).getD i []) (Array.replicate l.toArray.size false) ord := by
  refine ⟨by simp, fun i => ⟨fun hi => ?_, fun hi => hmem i hi.1⟩, nodupB_spec h7, pairsOk_spec h5, fun k hk hl => ?_, fun i o ho k hk => ?_, fun pre i post he o ho e hea hb => ?_⟩
  ·have := h3 i hi
   have hi' : i < l.toArray.size := by simpa [Nat.blt_eq] using this
   exact ⟨hi', by rw [Array.getD_eq_getD_getElem?, Array.getElem?_replicate, if_pos hi']; rfl⟩
  ·simp [Array.getD_eq_getD_getElem?, Array.getElem?_replicate, hk] at hl
   have : k < l.length := by simpa using hk
   simp [this] at hl
  ·have hi := (Array.getElem?_eq_some_iff.1 ho).1
   have := h4 i hi
   rw [ho] at this
   have := List.all_eq_true.1 this k hk
   simp only [List.any_eq_true, Bool.or_eq_true, beq_iff_eq, List.contains_iff_mem] at this
   obtain ⟨e, he, hh⟩ := this
   obtain ⟨x, hx, rfl⟩ := List.mem_map.1 he
   obtain ⟨hx1, hx2⟩ := List.mem_filter.1 hx
   exact ⟨x, by simpa using hx1, hx2, hh⟩
  ·rcases aheadOk_spec h6 pre i post he o ho e hea hb with h | h
   ·cases h
   ·exact .inl h
 refine wpIn_region_any hm ?_
 have r' : Rel fr N env H a w.drew := r.evol (Evol.drew H w) r.heap.drew
 exact draw_mainJ l.toArray.size ord _ env H (by omega) hrem (lastOk_spec hl) (.inl hI) h fr n a w.drew r' _ (fun e a' w' hp => hp.evol (Evol.drew H w))
theorem WpPj.consI {cls : Nat → Cls} {i : Nat} {r : List Nat} {env : Env} {H : Heap} {o : Oper} {v : AV} (ho : ops[i]? = some o) (hc : cls i = .I) (hd : dstOk N o = true) (hg : guardOf ops env o = some true) (hv : ∀ H', Exact P o env H' v) (h : WpPj P N ops Inv Q cls r (env.put o.dst v) H) : WpPj P N ops Inv Q cls (i :: r) env H :=
 ⟨o, ho, hd, by rw [hc]; exact ⟨v, fun H' _ => .inl ⟨hg, hv H'⟩, h⟩⟩
theorem WpPj.consV {cls : Nat → Cls} {i : Nat} {r : List Nat} {env : Env} {H : Heap} {o : Oper} {v : AV} (ho : ops[i]? = some o) (hc : cls i = .I) (hd : dstOk N o = true) (hg : guardOf ops env o = some true) (hv : ∀ H', Inv H' → Exact P o env H' v) (h : WpPj P N ops Inv Q cls r (env.put o.dst v) H) : WpPj P N ops Inv Q cls (i :: r) env H :=
 ⟨o, ho, hd, by rw [hc]; exact ⟨v, fun H' hi => .inl ⟨hg, hv H' hi⟩, h⟩⟩
theorem WpPj.skip {cls : Nat → Cls} {i : Nat} {r : List Nat} {env : Env} {H : Heap} {o : Oper} (ho : ops[i]? = some o) (hd : dstOk N o = true) (hg : guardOf ops env o = some false) (h : WpPj P N ops Inv Q cls r (env.put o.dst (.lit undef)) H) : WpPj P N ops Inv Q cls (i :: r) env H :=
 ⟨o, ho, hd, by
  cases hcl : cls i with
  | I => exact ⟨_, fun H' _ => .inr ⟨hg, rfl⟩, h⟩
  | S => exact ⟨_, .inr ⟨hg, rfl⟩, h⟩
  | E => exact .inr ⟨hg, h⟩⟩
theorem WpPj.consF {cls : Nat → Cls} {i : Nat} {r : List Nat} {env : Env} {H : Heap} {o : Oper} (ho : ops[i]? = some o) (hc : cls i = .E) (hd : dstOk N o = true) (hg : guardOf ops env o = some true) (hv : WpO P o env H (fun v H' => Inv H' ∧ WpPj P N ops Inv Q cls r (env.put o.dst v) H') noE) : WpPj P N ops Inv Q cls (i :: r) env H :=
 ⟨o, ho, hd, by rw [hc]; exact .inl ⟨hg, hv.mono (fun _ _ h => ⟨.inl h.1, h.2⟩) (fun _ _ h => h.elim)⟩⟩
theorem WpPj.consL {cls : Nat → Cls} {i : Nat} {env : Env} {H : Heap} {o : Oper} (ho : ops[i]? = some o) (hc : cls i = .E) (hd : dstOk N o = true) (hg : guardOf ops env o = some true) (hv : WpO P o env H (fun v H' => WpPj P N ops Inv Q cls [] (env.put o.dst v) H') noE) : WpPj P N ops Inv Q cls [i] env H :=
 ⟨o, ho, hd, by rw [hc]; exact .inl ⟨hg, hv.mono (fun _ _ h => ⟨.inr rfl, h⟩) (fun _ _ h => h.elim)⟩⟩
end draw
section steps
variable {P : Program} {N : Nat} {env : Env} {H : Heap} {Q : QC} {ops : Array Oper} {Inv : Heap → Prop}
theorem pevPj_sound {cls : Nat → Cls} : ∀ (n : Nat) (l : List Nat) (env : Env) (cs : List Prop) (l' : List Nat) (env' : Env) (cs' : List Prop), pevPi P N ops cls n l env cs = (l', env', cs') → conj cs' → WpPj P N ops Inv Q cls l' env' H → WpPj P N ops Inv Q cls l env H ∧ conj cs
  | 0, l, env, cs, l', env', cs', h, hc, k => by simp only [pevPi, forceP_eq, Prod.mk.injEq] at h; obtain ⟨rfl, rfl, rfl⟩ := h; exact ⟨k, hc⟩
  | n + 1, [], env, cs, l', env', cs', h, hc, k => by simp only [pevPi, forceP_eq, Prod.mk.injEq] at h; obtain ⟨rfl, rfl, rfl⟩ := h; exact ⟨k, hc⟩
  | n + 1, i :: rest, env, cs, l', env', cs', h, hc, k => by
    unfold pevPi at h
    split at h
    · rename_i o ho hcl
      split at h
      · rename_i hd hg
        split at h
        · rename_i v c hp
          obtain ⟨h1, h2⟩ := pevPj_sound n rest _ _ l' env' cs' h hc k
          rw [conj_append] at h2
          exact ⟨WpPj.consI ho hcl hd hg (fun H' => pev_sound hp h2.1 H') h1, h2.2⟩
        · simp only [forceP_eq, Prod.mk.injEq] at h; obtain ⟨rfl, rfl, rfl⟩ := h; exact ⟨k, hc⟩
      · rename_i hd hg
        obtain ⟨h1, h2⟩ := pevPj_sound n rest _ _ l' env' cs' h hc k
        exact ⟨WpPj.skip ho hd hg h1, h2⟩
      · simp only [forceP_eq, Prod.mk.injEq] at h; obtain ⟨rfl, rfl, rfl⟩ := h; exact ⟨k, hc⟩
    · simp only [forceP_eq, Prod.mk.injEq] at h; obtain ⟨rfl, rfl, rfl⟩ := h; exact ⟨k, hc⟩
theorem WpPj.pn {cls : Nat → Cls} (n : Nat) {l l' : List Nat} {env' : Env} {cs : List Prop} (h : pevPi P N ops cls n l env [] = (l', env', cs)) (hc : conj cs) (k : WpPj P N ops Inv Q cls l' env' H) : WpPj P N ops Inv Q cls l env H := (pevPj_sound n l env [] l' env' cs h hc k).1
theorem WpPj.nil {cls : Nat → Cls} (h : Q .normal env H) : WpPj P N ops Inv Q cls [] env H := h
theorem WpPj.at (d : Nat) {v : AV} {cls : Nat → Cls} {l : List Nat} (h : env d = v) (k : WpPj P N ops Inv Q cls l (env.put (some d) v) H) : WpPj P N ops Inv Q cls l env H := by rwa [Env.put_at h] at k
theorem WpC.seqDJ {id : Nat} {l : List Oper} {y : Code} (Inv : Heap → Prop) (cs : List Cls) (ord : List Nat) (hm : P.follows .mixedOrders = true) (hok : drawOk l.toArray cs (ancOf l) ord = true) (hl : lastOk (ancOf l) ord = true) (hI : Inv H) (h : WpPj P N l.toArray Inv (thenQ (fun env' H' => WpC P N y env' H' Q) Q) (clsAt cs) ord env H) : WpC P N (.seq (.region id l.toArray true) y) env H Q := WpC.seq (WpC.drawJ cs ord hm hok hl hI h)
end steps
end Go.Vc
