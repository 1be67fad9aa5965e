/-
  More rules for printed walks: a part of what is owned is enough behind a step; blocks behind which ways meet; elements of a slice that is owned are written; a slice that is made.
-/
import Derived.Test.YtfocleohejljpaaDoorTy
set_option linter.unusedVariables false
set_option linter.unusedSimpArgs false
namespace Go.Vc
open Go

def dropQ (Q : QC) : QC := fun e env H => ∃ H2, Heap.le H2 H ∧ Q e env H2
section
variable {P : Program} {N : Nat} {env : Env} {H H0 : Heap} {Q : QC} {rs : List Res}
theorem WpC.closed {c : Code} (h : WpC P N c env H (dropQ Q)) : WpC P N c env H Q := fun fr n a w r =>
  wpIn_mono (h fr n a w r) fun e a' w' ⟨env', H', ev, r', H2, hle, q⟩ => ⟨env', H2, ev.trans (Evol.drop w' hle), r'.drop hle, q⟩
theorem WpC.regionD {id : Nat} {l : List Oper} (h : WpOps P N l.toArray (dropQ Q) l env H) : WpC P N (.region id l.toArray false) env H Q := WpC.closed (WpC.region h)
theorem WpC.drawDI {id : Nat} {l : List Oper} (Inv : Heap → Prop) (cs : List Cls) (ord : List Nat) (hm : P.follows .mixedOrders = true) (hok : drawOk l.toArray cs (ancOf l) ord = true) (hI : Inv H) (h : WpPi P N l.toArray Inv (dropQ Q) (clsAt cs) ord env H) : WpC P N (.region id l.toArray true) env H Q := WpC.closed (WpC.drawI cs ord hm hok hI h)
theorem WpC.drawD {id : Nat} {l : List Oper} (cs : List Cls) (ord : List Nat) (hm : P.follows .mixedOrders = true) (hok : drawOk l.toArray cs (ancOf l) ord = true) (h : WpPi P N l.toArray (fun _ => True) (dropQ Q) (clsAt cs) ord env H) : WpC P N (.region id l.toArray true) env H Q := WpC.closed (WpC.draw cs ord hm hok h)
theorem WpC.skipD (h : dropQ Q .normal env H) : WpC P N .skip env H Q := WpC.closed (WpC.skip h)
theorem WpC.exitD {id : Nat} (h : dropQ Q (.exit id) env H) : WpC P N (.exit id) env H Q := WpC.closed (WpC.exit h)
/-- a block behind which ways meet -/
theorem WpC.blockK {id : Nat} {c : Code} {α : Type} (L : α → List (Nat × AV)) (J : α → Heap → Prop) (h1 : WpC P N c env H (blockQ id (thenQ (fun env' H' => ∃ s, knows env' (L s) ∧ J s H') Q)))
    (h2 : ∀ s env' H', J s H' → dropQ Q .normal (Env.of (L s) env') H') : WpC P N (.block id c) env H Q := by
  refine WpC.closed ((WpC.block h1).mono ?_)
  intro e env' H' q
  cases e with
  | normal => obtain ⟨s, hk, hj⟩ := q; have := h2 s env' H' hj; rwa [hk.eq] at this
  | exit id => exact ⟨_, Heap.le_refl _, q⟩
  | goto l => exact ⟨_, Heap.le_refl _, q⟩
  | ret => exact ⟨_, Heap.le_refl _, q⟩
  | panic ch => exact ⟨_, Heap.le_refl _, q⟩
  | outgrown => exact ⟨_, Heap.le_refl _, q⟩
theorem Holds.lose_ {i : Nat} {r : Res} (h : Holds H0 rs H) (hi : rs[i]? = some r) : ∃ H', Heap.le H' H ∧ Holds H0 (rs.eraseIdx i) H' := by
  obtain ⟨H1, k1, k2, k3, k4⟩ := h.at_ hi
  exact ⟨H1, k1.le, k3⟩
theorem TCall.held {f : FuncId} {args : List AV} {g t : Nat} {cs : List AV} {v0 : AV} {E : List PanicEntry → Heap → Prop} (hH : Holds H0 [.cell g t cs] H) (h : TCall P f args H (fun v H' => v = v0 ∧ Holds H0 [.cell g t cs] H') E) : TCall P f args H (fun v H' => v = v0 ∧ H' = H) E :=
  h.mono (fun v H' ⟨h1, h2⟩ => ⟨h1, by
    obtain ⟨_, rfl, _, rfl⟩ := hH
    obtain ⟨_, rfl, _, rfl⟩ := h2
    rfl⟩) (fun _ _ h => h)
end
theorem ne_of_ix {α : Type} {f : α → List AV} {l : List α} {n : Int} {x : α} (h : Sh.ix l n = some x) : l.map f ≠ [] := by
  have := Sh.ix_lt h
  intro e
  have : l = [] := by simpa using e
  subst this; simp at *

section
variable {P : Program} {o : Oper} {env : Env} {H H0 : Heap} {K : AV → Heap → Prop} {E : List PanicEntry → Heap → Prop} {rs : List Res}
/-- an element of a slice that is owned is written, or a part of it -/
theorem WpO.setT {α : Type} (f : α → List AV) {l : List α} {n : Int} {y y' : α} {t ty : TypeId} {x z : Operand} {g c size off i : Nat} {v : AV} (h : Sh.ix l n = some y) (hh : Holds H0 rs H) (hi : rs[i]? = some (.own ty size (some (g, c)) (l.map f))) (ho : o.op = .store t x z)
    (hx : env.ev x = .lit (.pointer (some ⟨g, n.toNat * size + off, none⟩))) (hy : forceA (env.ev z) some = some v) (h1 : (cellsA v).all AV.one = true) (hs : P.cellsOf t = (cellsA v).length) (hz : Nat.ble 1 (cellsA v).length = true) (hfit : Nat.ble (off + (cellsA v).length) size = true) (hc : forceL (spliceA (f y) off (cellsA v)) some = some (f y'))
    (hk : ∀ H', Holds H0 (rs.set i (.own ty size (some (g, c)) ((l.set n.toNat y').map f))) H' → K (.lit undef) H') : WpO P o env H K E := by
  obtain ⟨H1, k1, k2, k3, k4⟩ := hh.at_ hi
  rcases Own.inv k1 with ⟨h1, _⟩ | ⟨g', c', e, hg, rfl⟩
  · cases h1
  injection e with e; injection e with e1 e2; subst e1; subst e2
  refine WpO.store_row (i := n.toNat) (f := off) ho hx (Heap.set_same _ _ _) (by rw [forceA_eq] at hy; injection hy) rfl (map_ix h) h1 hs (by have := Nat.le_of_ble_eq_true hz; omega) (Nat.le_of_ble_eq_true hfit) hc ?_
  rw [Heap.set_set]
  refine hk _ (k4 _ _ ?_)
  rw [List.map_set]
  exact Own.row g c hg rfl
/-- a slice is made -/
theorem WpO.makeT {α : Type} (f : α → List AV) {z : α} {n : Int} {b : Nat} {t e : TypeId} {x y : Operand} {k1 k2 : IntKind} (hc : 0 ≤ n ∧ n * (b : Int) ≤ 140737488355328 ∧ n ≤ 140737488355328) (ho : o.op = .makeSlice t x y) (hx : env.ev x = .lit (.int k1 n)) (hy : env.ev y = .lit (.int k2 n)) (hh : Holds H0 rs H)
    (he : elemT P t = some e) (hz : zeroA P e = some (f z)) (hb : P.bytesOf e = b) (hsz : P.cellsOf e = (f z).length) (hz0 : (f z).length ≠ 0)
    (hk : ∀ g c H', Holds H0 (.own e (f z).length (some (g, c)) ((List.replicate n.toNat z).map f) :: rs) H' → K (.own ((List.replicate n.toNat z).map f).length (some (g, c))) H') : WpO P o env H K E := by
  have hn : ((n.toNat : Nat) : Int) = n := by omega
  refine WpO.makeSlice (k1 := k1) (k2 := k2) (n := n.toNat) ho (by rw [hx]; congr 2; exact hn.symm) (by rw [hy]; congr 2; exact hn.symm) he hz hsz hz0 ?_ (by omega) fun g hg => ?_
  · rw [hb, Nat.mul_comm]
    have h1 := hc.2.1
    rw [← hn] at h1
    have h4 : ((n.toNat * b : Nat) : Int) ≤ 140737488355328 := by rw [Int.natCast_mul]; exact h1
    generalize n.toNat * b = m at h4 ⊢
    omega
  · have h1 : (List.replicate n.toNat z).map f = List.replicate n.toNat (f z) := by rw [List.map_replicate]
    have h2 := hk g n.toNat (H.set g (.row e (f z).length ((List.replicate n.toNat z).map f) n.toNat)) (hh.newRow hg)
    rw [h1] at h2
    rw [List.length_replicate] at h2
    exact h2
end
end Go.Vc
