/-
  Calls that hand back a slice that is their caller's own, also of what is only looked at. It hangs on no seat.
-/
import Derived.Test.YtffgaoehhmgbjaaDoorDf
set_option linter.unusedVariables false
set_option linter.unusedSimpArgs false
namespace Go.Vc
open Go
def AV.isLit : AV → Bool
  | .lit _ => true
  | _ => false
theorem VRs.lit_any {w w' : World} {D D' : Nat → Prop} {xs : List AV} {us : List Value} (hl : ∀ x ∈ xs, x.isLit = true) (h : VRs w D xs us) : VRs w' D' xs us := ⟨h.1, fun k x u hx hu => by
  have h1 := hl x (List.mem_of_getElem? hx)
  have h2 := h.2 k x u hx hu
  cases x <;> first | (cases h1; done) | skip
  cases h2
  exact .lit _⟩
section
variable {P : Program} {o : Oper} {env : Env} {H H0 : Heap} {K : AV → Heap → Prop} {E : List PanicEntry → Heap → Prop} {rs : List Res}
theorem WpO.callQ {f : FuncId} {args : Array Operand} {ts : Array TypeId} {xs : List AV} {t size : Nat} {es : List (List AV)} {F : Option (Nat × Nat) → AV} (ho : o.op = .call { callee := .value (.func f), args := args, argTypes := ts }) (he : enterable P f = true) (hx : forceL (args.toList.map env.ev) some = some xs) (hh : Holds H0 rs H)
    (h : TCall P f xs H (fun v H' => ∃ p, v = F p ∧ Own H t size es es.length p H') noE) (hk : ∀ p H', Holds H0 (.own t size p es :: rs) H' → K (F p) H') : WpO P o env H K E := by
  refine WpO.call ho he hx (h.mono ?_ (fun _ _ h => h.elim))
  rintro _ H' ⟨p, rfl, h2⟩; exact hk p H' ⟨H, hh, h2⟩
theorem WpO.peekQ {f : FuncId} {args : Array Operand} {ts : Array TypeId} {xs : List AV} {t size tt ty sz i nn : Nat} {p0 : Option (Nat × Nat)} {es0 : List (List AV)} {α : Type} {cT : α → List AV} {l : List α} {F : Option (Nat × Nat) → AV} {lv : Value} (hh : Holds H0 rs H) (hi : rs[i]? = some (.own ty sz p0 es0)) (ht : env tt = .own es0.length p0)
    (ho : o.op = .call { callee := .value (.func f), args := args, argTypes := ts }) (he : enterable P f = true) (hx : forceL (args.toList.map (env.put (some tt) (.rows sz es0)).ev) some = some xs) (hF : F = fun p => .tup [.own nn p, .lit lv]) (hl : ∀ y : α, (cT y).all AV.isLit = true)
    (h : TCall P f xs H.ro (fun v H' => ∃ p, v = F p ∧ Own H.ro t size (l.map cT) (l.map cT).length p H') noE) (hk : ∀ p H', Holds H0 (.own t size p (l.map cT) :: rs) H' → K (F p) H') : WpO P o env H K E := by
  obtain ⟨H1, k1, k2, k3, k4⟩ := hh.at_ hi
  have hro : H.ro.le H1 := by
    rcases Own.inv k1 with ⟨_, _, rfl⟩ | ⟨g, c, _, hg, rfl⟩
    · exact Heap.ro_le _
    · rw [Heap.ro_set rfl hg]; exact Heap.ro_le _
  have up : Up H (.own es0.length p0) H.ro (.rows sz es0) := ⟨Heap.ro_le _, fun w x hr hx => ((Own.up k1).2 w x hr hx).evol (Evol.drop w hro)⟩
  have h2 : WpO P o (env.put (some tt) (.rows sz es0)) H.ro (fun v H' => ∃ p, v = F p ∧ Own H.ro t size (l.map cT) (l.map cT).length p H') noE := WpO.call ho he hx h
  intro r n a w hr K' Q' hK hE
  refine h2 r n a w ⟨fun x hx => ?_, hr.2.drop (Heap.ro_le _)⟩ K' Q' (fun u v' H' w' ev hh' hv' ⟨p, e1, own⟩ => ?_) (fun ch H' w' ev hh' he => he.elim)
  · have h0 := hr.1 x hx
    have hev := Evol.drop w (Heap.ro_le H)
    cases x with
    | tmp q =>
      by_cases hq : q = tt
      · subst hq
        simp only [Env.ev, Env.put, if_true] at h0 ⊢
        rw [ht] at h0
        exact up.2 w _ hr.2 h0
      · simp only [Env.ev, Env.put, hq, if_false] at h0 ⊢
        exact h0.evol hev
    | _ => exact VR.evol hev h0
  · subst e1
    have hkeep : ∀ g, g < w.heap.size → w'.heap[g]? = w.heap[g]? := fun g hg => ev.keep g hg (Heap.ro_dom _ g)
    have hval : ∀ D, VR w' D (F p) v' := fun D => by
      subst hF
      obtain ⟨us, rfl, h3⟩ := hv'.tup_inv
      obtain ⟨u1, us1, rfl, h4, h5⟩ := h3.cons_inv
      obtain ⟨u2, us2, rfl, h6, h7⟩ := h5.cons_inv
      obtain rfl := h7.nil_inv
      have h8 : VR w' D (.own nn p) u1 := by cases h4 <;> constructor
      have h9 : VR w' D (.lit lv) u2 := by cases h6; constructor
      have h10 : VRs w' D [.own nn p, .lit lv] [u1, u2] := .cons h8 (.cons h9 .nil)
      exact .tup _ h10.1 h10.2
    rcases Own.inv own with ⟨rfl, e, rfl⟩ | ⟨g, c, rfl, hg, rfl⟩
    · have ev2 : Evol H w H w' := ⟨ev.os, ev.tape, ev.output, ev.size, fun g hg _ => hkeep g hg, fun g hg => .inl hg⟩
      exact hK _ v' H w' ev2 (hr.2.evolN ev2 (fun g ob hg => hkeep g (hr.2 g ob hg).lt)) (hval _) (hk _ _ ⟨H, hh, by rw [e]; exact Own.nil rfl⟩)
    · have hnew : w.heap.size ≤ g := by
        rcases ev.dom g ⟨_, Heap.set_same _ _ _, rfl⟩ with h | h
        · exact (Heap.ro_dom _ _ h).elim
        · exact h
      have hgH : H g = none := hr.2.fresh hnew
      have ev2 : Evol H w (H.set g (.row t size (l.map cT) c)) w' := ⟨ev.os, ev.tape, ev.output, ev.size, fun k hk _ => hkeep k hk, fun k hd => by
        obtain ⟨x, hx, h1⟩ := hd
        by_cases e : k = g
        · exact .inr (e ▸ hnew)
        · rw [Heap.set_ne _ _ e] at hx; exact .inl ⟨x, hx, h1⟩⟩
      have hR : HeapR w' (H.set g (.row t size (l.map cT) c)) := fun k x hx => by
        by_cases e : k = g
        · subst e; rw [Heap.set_same] at hx; injection hx with hx; subst hx
          obtain ⟨cur, b1, b2, b3, b4, b5, b6⟩ := hh' k _ (Heap.set_same _ _ _)
          refine ⟨cur, b1, b2, b3, b4, b5, b6.lit_any fun x hx => ?_⟩
          obtain ⟨e, he, hx⟩ := List.mem_flatten.1 hx
          obtain ⟨y, _, rfl⟩ := List.mem_map.1 he
          exact List.all_eq_true.1 (hl y) x hx
        · rw [Heap.set_ne _ _ e] at hx
          exact (hr.2 k x hx).mono ev2.size ev2.hk (hkeep k (hr.2 k x hx).lt)
      exact hK _ v' _ w' ev2 hR (hval _) (hk _ _ ⟨H, hh, Own.row g c hgH rfl⟩)
end
end Go.Vc
