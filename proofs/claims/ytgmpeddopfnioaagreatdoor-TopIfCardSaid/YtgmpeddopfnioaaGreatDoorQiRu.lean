/-
  Part of the proof of If.
-/
import Derived.Test.YtgmpeddopfnioaaGreatDoorQiTvx

set_option linter.unusedVariables false
set_option linter.unusedSimpArgs false
namespace Go.Vc
open Go
section
variable {P : Program} {o : Oper} {env : Env} {H H0 : Heap} {K : AV → Heap → Prop} {E : List PanicEntry → Heap → Prop} {rs : List Res}
theorem wG {v u : AV} {c : List Prop} (h : pev P o.op env = some (v, c)) (hs : Sub v u) (hc : conj c) : Exact P o env H u := (Exact.pv h hc).sub hs
theorem WpO.callTF {f : FuncId} {args : Array Operand} {ts : Array TypeId} {xs : List AV} {i ty size : Nat} {p : Option (Nat × Nat)} {es es' : List (List AV)} (ho : o.op = .call { callee := .value (.func f), args := args, argTypes := ts }) (he : enterable P f = true) (hx : forceL (args.toList.map env.ev) some = some xs) (hh : Holds H0 rs H) (hi : rs[i]? = some (.own ty size p es))
  (h : ∀ H1, H0.le H1 → Holds H1 [.own ty size p es] H → TCall P f xs H (fun u H' => u = .own es'.length p ∧ Holds H1 [.own ty size p es'] H') noE) (hk : ∀ H', Holds H0 (rs.eraseIdx i) H' → K (.rows size es') H') : WpO P o env H K E := by
 obtain ⟨H1, k1, k2, k3, k4⟩ := hh.at_ hi
 refine WpO.call ho he hx (TCall.up ((h H1 k2 (.one k1)).mono ?_ (fun _ _ h => h.elim)))
 rintro _ H' ⟨rfl, h'⟩
 exact ⟨_, H1, Own.up h'.one_inv, hk H1 k3⟩
theorem forceA_rfl {x v : AV} (h : x = v) : forceA x some = some v := by rw [forceA_eq, h]
theorem forceL_two {x y u v : AV} (h1 : x = u) (h2 : y = v) : forceL [x, y] some = some [u, v] := by rw [forceL_eq, h1, h2]
theorem ldv_one {t : TypeId} {v : AV} {rest cs : List AV} {ms : Array (String × TypeId)} (hc : cs = v :: rest) (h : P.underlying t = some (.interface ms)) : ldv P t cs = some v := by
 subst hc; unfold ldv; rw [h]; exact forceA_eq _ _
theorem wC {x : Operand} {v : AV} (ho : o.op = .move x) (hx : env.ev x = v) : Exact P o env H v := by
 refine vB (by simp [noDefer, ho]) fun a w ⟨hr, hh⟩ => ⟨a.eval x, by simp [execOp, ho], ?_⟩
 have hv := hr x (by rw [ho]; simp [Op.operands])
 rw [hx] at hv; exact hv
theorem uZ {x : Operand} {v : AV} (ho : o.op = .assign x) (hx : env.ev x = v) : Exact P o env H v := by
 refine vB (by simp [noDefer, ho]) fun a w ⟨hr, hh⟩ => ⟨a.eval x, by simp [execOp, ho], ?_⟩
 have hv := hr x (by rw [ho]; simp [Op.operands])
 rw [hx] at hv; exact hv
def RowAt (H : Heap) (t size : Nat) (p : Option (Nat × Nat)) (es : List (List AV)) : Prop := ∀ g c, p = some (g, c) → H g = some (.row t size es c)
theorem Holds.rowAt {i t size : Nat} {p : Option (Nat × Nat)} {es : List (List AV)} (h : Holds H0 rs H) (hi : rs[i]? = some (.own t size p es)) : RowAt H t size p es := fun g c e => by subst e; exact h.row hi
theorem Exact.ldoR {α : Type} (f : α → List AV) {l : List α} {n : Int} {y : α} {t ty : TypeId} {x : Operand} {g c size off : Nat} {v : AV} (h : Sh.ix l n = some y) (hh : RowAt H ty size (some (g, c)) (l.map f)) (ho : o.op = .load t x)
  (hx : env.ev x = .lit (.pointer (some ⟨g, n.toNat * size + off, none⟩))) (hf : off ≤ size) (hl : ldv P t ((f y).drop off) = some v) : Exact P o env H v :=
 Exact.load_row ho hx (hh _ _ rfl) rfl hf (map_ix h) hl
theorem Subs.len {xs ys : List AV} (h : Subs xs ys) : xs.length = ys.length := by induction h with
  | nil => rfl
  | cons _ _ ih => simp [ih]
theorem Subs.app {a b c d : List AV} (h : Subs a b) (k : Subs c d) : Subs (a ++ c) (b ++ d) := by induction h with
  | nil => exact k
  | cons h _ ih => exact .cons h ih
theorem Subs.rep {z z' : List AV} (h : Subs z z') : ∀ n : Nat, Subs (List.replicate n z).flatten (List.replicate n z').flatten
 | 0 => .nil
 | n + 1 => by rw [List.replicate_succ, List.replicate_succ, List.flatten_cons, List.flatten_cons]; exact h.app (Subs.rep h n)
theorem Wk.row {H1 : Heap} {g t size c : Nat} {es es' : List (List AV)} (hl : es'.length = es.length) (hsz : ∀ e ∈ es', e.length = size) (hs : Subs es.flatten es'.flatten) : Wk (H1.set g (.row t size es c)) (H1.set g (.row t size es' c)) := fun w => by
 have hd : (H1.set g (.row t size es' c)).dom = (H1.set g (.row t size es c)).dom := by
  funext k; apply propext; unfold Heap.dom
  by_cases e : k = g
  ·subst e; rw [uO, uO]; exact ⟨fun _ => ⟨_, rfl, rfl⟩, fun _ => ⟨_, rfl, rfl⟩⟩
  ·rw [uS _ _ e, uS _ _ e]
 refine ⟨⟨rfl, rfl, rfl, Nat.le_refl _, fun _ _ _ => rfl, fun g' hg' => .inl (by rw [hd] at hg'; exact hg')⟩, fun hh k o ho => ?_⟩
 by_cases e : k = g
 ·subst e
  rw [uO] at ho; injection ho with ho; subst ho
  obtain ⟨cur, h1, h2, h3, h4, h5, h6⟩ := hh k _ (uO _ _ _)
  refine ⟨cur, h1, h2, by rw [hl]; exact h3, h4, hsz, ?_⟩
  rw [hd, hl]; exact hs.vrs h6
 ·rw [uS _ _ e] at ho
  rw [hd]
  exact hh k o (by rw [uS _ _ e]; exact ho)
theorem WpO.makeU {α : Type} (f : α → List AV) {z : α} {z0 : List AV} {n : Int} {b : Nat} {t e : TypeId} {x y : Operand} {k1 k2 : IntKind} (hc : 0 ≤ n ∧ n * (b : Int) ≤ 140737488355328 ∧ n ≤ 140737488355328) (hs : Subs z0 (f z)) (ho : o.op = .makeSlice t x y) (hx : env.ev x = .lit (.int k1 n)) (hy : env.ev y = .lit (.int k2 n)) (hh : Holds H0 rs H)
  (he : elemT P t = some e) (hz : zeroA P e = some z0) (hb : P.bytesOf e = b) (hsz : P.cellsOf e = z0.length) (hz0 : z0.length ≠ 0)
  (hk : ∀ g c H', Holds H0 (.own e (f z).length (some (g, c)) ((List.replicate n.toNat z).map f) :: rs) H' → K (.own ((List.replicate n.toNat z).map f).length (some (g, c))) H') : WpO P o env H K E :=
 WpO.weak (WpO.makeT (fun x : List AV => x) (z := z0) hc ho hx hy hh he hz hb hsz hz0 fun g c H' h => by
  obtain ⟨H1, h1, h2⟩ := h
  rcases wH h2 with ⟨h3, _⟩ | ⟨g', c', h3, h4, h5⟩
  ·cases h3
  ·injection h3 with h3; injection h3 with e1 e2; subst e1; subst e2
   have hm : (List.replicate n.toNat z).map f = List.replicate n.toNat (f z) := List.map_replicate
   have hi : (List.replicate n.toNat z0).map (fun x : List AV => x) = List.replicate n.toNat z0 := List.map_id _
   refine ⟨H1.set g (.row e (f z).length ((List.replicate n.toNat z).map f) c), ?_, ?_⟩
   ·rw [h5]; show Wk (H1.set g (.row e z0.length _ c)) _
    rw [hs.len]
    refine Wk.row (by simp) (fun q hq => ?_) ?_
    ·obtain ⟨q', hq', rfl⟩ := List.mem_map.1 hq
     rw [(List.mem_replicate.1 hq').2]
    ·rw [hm, hi]; exact hs.rep _
   ·have := hk g c _ (⟨H1, h1, Own.row g c h4 rfl⟩)
    have el : ((List.replicate n.toNat z0).map (fun x : List AV => x)).length = ((List.replicate n.toNat z).map f).length := by simp
    rw [el]; exact this)
def bldA (P : Program) (t : TypeId) (l : List (Nat × AV)) : Option (List AV) := match zeroA P t, placesOf P t with
 | some z, some pl => fillA pl z l
 | _, _ => none
theorem Exact.bld {t : TypeId} {parts : Array (Nat × Operand)} {cs : List AV} {l : List (Nat × AV)} (ho : o.op = .build t parts) (hl : (parts.toList.map fun p => (p.1, env.ev p.2)) = l) (h : bldA P t l = some cs) : Exact P o env H (.agg cs) := by
 refine Exact.pv (c := []) ?_ trivial
 rw [ho]; unfold bldA at h
 split at h
 ·rename_i z pl h1 h2
  simp only [pev, h1, h2, hl, h, forceL_eq]
 ·cases h
theorem Exact.invoke {x : Operand} {name : String} {ts : Array TypeId} {t : TypeId} {f : FuncId} {v u : AV} (ho : o.op = .call { callee := .invoke x name, args := #[], argTypes := ts }) (hx : env.ev x = .ifc t v) (he : enterable P f = true)
  (hm : ∀ (u : Value) (w : World), VR w H.dom v u → (method (P.types.size + Made.depth) t u name).run P w = .ok (f, u) w) (h : TCall P f [v] H (fun v H' => v = u ∧ H' = H) noE) : Exact P o env H u := WpO.invoke ho hx he hm h
theorem WpO.boxC {t : TypeId} {x : Operand} {v : AV} {cs : List AV} (hcs : cellsA v = cs) (ho : o.op = .box t x) (hx : env.ev x = v) (hh : Holds H0 rs H) (hk : ∀ g H', Holds H0 (.cell g t cs :: rs) H' → K (.lit (.pointer (some ⟨g, 0, none⟩))) H') : WpO P o env H K E :=
 vF ho hx hh (hcs ▸ hk)
end
section
variable {P : Program} {N : Nat} {env : Env} {H : Heap} {Q : QC}
def upQ (Q : QC) : QC := fun e env H => ∃ t u H', Up H (env t) H' u ∧ Q e (env.put (some t) u) H'
theorem WpC.closedUp {c : Code} (h : WpC P N c env H (upQ Q)) : WpC P N c env H Q := fun fr n a w r =>
 wpIn_mono (h fr n a w r) fun e a' w' ⟨env', H', ev, r, t, u, H2, up, q⟩ => ⟨_, H2, ev.trans (Evol.drop w' up.1), ⟨r.size, fun k => by
  by_cases hk : k = t
  ·subst hk; simp only [Env.put, if_true]; exact up.2 w' _ r.heap (r.vals k)
  ·simp only [Env.put, hk, if_false]; exact (r.vals k).evol (Evol.drop w' up.1), r.heap.drop up.1, r.base, r.marks.evol (Evol.drop w' up.1), r.round.evol (Evol.drop w' up.1), r.quiet⟩, q⟩
end
end Go.Vc
