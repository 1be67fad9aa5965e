/-
  The rules at plain data: how numbers, texts, lists stand in the calculus; reading an element, cutting, growing.
-/
import Derived.Test.YtffgaoehhmgbjaaDoorHo
set_option linter.unusedVariables false
set_option linter.unusedSimpArgs false
namespace Go.Vc
open Go

abbrev iA (n : Int) : AV := .lit (.int .i64 n)
abbrev u8A (c : UInt8) : AV := .lit (.int .u8 c.toNat)
abbrev sA (l : List UInt8) : AV := .lit (.string ⟨⟨l⟩⟩)
abbrev bA (b : Bool) : AV := .lit (.bool b)
def cI (n : Int) : List AV := [iA n]
def cU (c : UInt8) : List AV := [u8A c]
def cS (l : List UInt8) : List AV := [sA l]
def cB (b : Bool) : List AV := [bA b]
def cL {α : Type} (size : Nat) (f : α → List AV) (l : List α) : List AV := [.rows size (l.map f)]
theorem one_cI (x : Int) : (cI x).all AV.one = true := rfl
theorem one_cU (x : UInt8) : (cU x).all AV.one = true := rfl
theorem one_cS (x : List UInt8) : (cS x).all AV.one = true := rfl
theorem one_cB (x : Bool) : (cB x).all AV.one = true := rfl
theorem one_cL {α : Type} (size : Nat) (f : α → List AV) (x : List α) : (cL size f x).all AV.one = true := rfl

theorem len_map {α : Type} (f : α → List AV) (l : List α) : (AV.lit (.int .i64 ((l.map f).length : Nat))) = iA (l.length : Nat) := by rw [List.length_map]
theorem rows_drop {α : Type} (size : Nat) (f : α → List AV) (l : List α) (a : Nat) : AV.rows size ((l.map f).drop a) = .rows size ((l.drop a).map f) := by rw [List.map_drop]
theorem rows_take {α : Type} (size : Nat) (f : α → List AV) (l : List α) (b : Nat) : AV.rows size ((l.map f).take b) = .rows size ((l.take b).map f) := by rw [List.map_take]
theorem rows_cut {α : Type} (size : Nat) (f : α → List AV) (l : List α) (a b : Nat) : AV.rows size (((l.map f).drop a).take (b - a)) = .rows size (((l.drop a).take (b - a)).map f) := by rw [List.map_take, List.map_drop]
theorem map_ix {α : Type} {f : α → List AV} {l : List α} {n : Int} {x : α} (h : Sh.ix l n = some x) : (l.map f)[n.toNat]? = some (f x) := map_at (Sh.ix_spec h).2

section
variable {P : Program} {o : Oper} {env : Env} {H H0 : Heap} {K : AV → Heap → Prop} {E : List PanicEntry → Heap → Prop} {rs : List Res}
/-- the address of an element of a list that is read -/
theorem Exact.ixr {α : Type} (f : α → List AV) {l : List α} {n : Int} {y : α} {t e0 : TypeId} {x i : Operand} {k0 : IntKind} {size : Nat} (h : Sh.ix l n = some y) (ho : o.op = .indexAddr t x i) (hx : env.ev x = .rows size (l.map f)) (hi : env.ev i = .lit (.int k0 n))
    (ht : elemT P t = some e0) (hsz : P.cellsOf e0 = size) (hz : size ≠ 0) : Exact P o env H (.rop (f y)) := by
  have h0 := (Sh.ix_spec h).1
  refine Exact.indexAddr_rows (k0 := k0) (k := n.toNat) ho hx ?_ (map_ix h) ht hsz hz
  rw [hi]
  congr 2
  show n = ((n.toNat : Nat) : Int)
  omega
/-- .. of a slice that is owned -/
theorem Exact.ixo {α : Type} (f : α → List AV) {l : List α} {n : Int} {y : α} {t e0 : TypeId} {x i : Operand} {k0 : IntKind} {size g c : Nat} (h : Sh.ix l n = some y) (ho : o.op = .indexAddr t x i) (hx : env.ev x = .own (l.map f).length (some (g, c))) (hi : env.ev i = .lit (.int k0 n))
    (ht : elemT P t = some e0) (hsz : P.cellsOf e0 = size) (hz : size ≠ 0) : Exact P o env H (.lit (.pointer (some ⟨g, n.toNat * size, none⟩))) := by
  have h0 := (Sh.ix_spec h).1
  refine Exact.indexAddr_buf (k0 := k0) (k := n.toNat) ho hx ?_ (by rw [List.length_map]; exact Sh.ix_lt h) ht hsz hz
  rw [hi]
  congr 2
  show n = ((n.toNat : Nat) : Int)
  omega
/-- what stands there -/
theorem Exact.ldo {α : Type} (f : α → List AV) {l : List α} {n : Int} {y : α} {t ty : TypeId} {x : Operand} {g c size off i : Nat} {v : AV} (h : Sh.ix l n = some y) (hh : Holds H0 rs H) (hi : rs[i]? = some (.own ty size (some (g, c)) (l.map f))) (ho : o.op = .load t x)
    (hx : env.ev x = .lit (.pointer (some ⟨g, n.toNat * size + off, none⟩))) (hf : off ≤ size) (hl : ldv P t ((f y).drop off) = some v) : Exact P o env H v :=
  Exact.load_row ho hx (hh.row hi) rfl hf (map_ix h) hl
/-- a byte of a text -/
theorem Exact.ixs {l : List UInt8} {n : Int} {c : UInt8} {t : TypeId} {x i : Operand} {k0 : IntKind} (h : Sh.ix l n = some c) (ho : o.op = .index t x i) (hx : env.ev x = sA l) (hi : env.ev i = .lit (.int k0 n)) (hu : P.underlying t = some .string) : Exact P o env H (u8A c) := by
  obtain ⟨h0, h1⟩ := Sh.ix_spec h
  have hlt := Sh.ix_lt h
  have : pev P o.op env = some (.lit (.int .u8 (l.getD n.toNat 0).toNat), [0 ≤ n ∧ n.toNat < l.length]) := by
    rw [ho]; simp only [pev, hu, hx, hi]
  have := pev_sound this ⟨h0, hlt⟩ H
  have hg : l.getD n.toNat 0 = c := by rw [List.getD_eq_getElem?_getD, h1]; rfl
  rwa [hg] at this
/-- an element of an array, that stands as a value -/
theorem Exact.ixa {α : Type} (f : α → AV) {l : List α} {n : Int} {y : α} {t e0 : TypeId} {x i : Operand} {k0 : IntKind} {len : Nat} (h : Sh.ix l n = some y) (ho : o.op = .index t x i) (hx : env.ev x = .agg (l.map f)) (hi : env.ev i = .lit (.int k0 n)) (hu : P.underlying t = some (.array len e0)) (hlen : l.length = len)
    (h1 : P.cellsOf e0 = 1) (h2 : (P.underlying e0 = some .string)) : Exact P o env H (f y) := by
  obtain ⟨h0, hk⟩ := Sh.ix_spec h
  have hlt := Sh.ix_lt h
  apply Exact.of_run (by simp [noDefer, ho])
  intro a w ⟨hr, hh⟩
  rw [ho] at hr
  have g0 := hr x (by simp [Op.operands])
  have g1 := hr i (by simp [Op.operands])
  rw [hx] at g0; rw [hi] at g1
  obtain ⟨us, e0', hv⟩ := g0.agg_inv
  have e1 := g1.lit_inv
  obtain ⟨u, hu1, hu2⟩ := hv.at_ (k := n.toNat) (x := f y) (by rw [List.getElem?_map, hk]; rfl)
  have hso := cellsOf_run (w := w) (P := P) (t := e0) h1 (by simp)
  refine ⟨u, ?_, hu2⟩
  have hbd : (0 : Int) ≤ n ∧ n < (len : Int) := ⟨h0, by omega⟩
  have hia : (isAgg e0).run P w = .ok false w := by
    unfold isAgg
    simp only [Sem.run_bind, run_underlying h2, Result.andThen_ok, Sem.run_pure]
  unfold execOp
  rw [ho]
  simp only [e0', e1, Instr.index, asIntOf, Sem.run_bind, Sem.run_pure, Result.andThen_ok, run_underlying hu]
  rw [if_pos hbd]
  simp only [Sem.run_bind, hso, Result.andThen_ok, Nat.mul_one, part, hia, Sem.run_pure, List.getElem?_toArray, hu1, Bool.false_eq_true, if_false]
end
end Go.Vc

set_option linter.unusedVariables false
set_option linter.unusedSimpArgs false
namespace Go.Vc
open Go

def dropQ (Q : QC) : QC := fun e env H => ∃ H2, Heap.le H2 H ∧ Q e env H2
section
variable {P : Program} {N : Nat} {env : Env} {H H0 : Heap} {Q : QC} {rs : List Res}
theorem WpC.closed {c : Code} (h : WpC P N c env H (dropQ Q)) : WpC P N c env H Q := fun fr n a w r =>
  wpIn_mono (h fr n a w r) fun e a' w' ⟨env', H', ev, r', H2, hle, q⟩ => ⟨env', H2, ev.trans (Evol.drop w' hle), r'.drop hle, q⟩
theorem WpC.regionD {id : Nat} {l : List Oper} (h : WpOps P N l.toArray (dropQ Q) l env H) : WpC P N (.region id l.toArray false) env H Q := WpC.closed (WpC.region h)
theorem WpC.drawDI {id : Nat} {l : List Oper} (Inv : Heap → Prop) (cs : List Cls) (ord : List Nat) (hm : P.follows .mixedOrders = true) (hok : drawOk l.toArray cs (ancOf l) ord = true) (hI : Inv H) (h : WpPi P N l.toArray Inv (dropQ Q) (clsAt cs) ord env H) : WpC P N (.region id l.toArray true) env H Q := WpC.closed (WpC.drawI cs ord hm hok hI h)
theorem WpC.drawD {id : Nat} {l : List Oper} (cs : List Cls) (ord : List Nat) (hm : P.follows .mixedOrders = true) (hok : drawOk l.toArray cs (ancOf l) ord = true) (h : WpPi P N l.toArray (fun _ => True) (dropQ Q) (clsAt cs) ord env H) : WpC P N (.region id l.toArray true) env H Q := WpC.closed (WpC.draw cs ord hm hok h)
theorem WpC.skipD (h : dropQ Q .normal env H) : WpC P N .skip env H Q := WpC.closed (WpC.skip h)
theorem WpC.exitD {id : Nat} (h : dropQ Q (.exit id) env H) : WpC P N (.exit id) env H Q := WpC.closed (WpC.exit h)
/-- a block behind which ways meet -/
theorem WpC.blockK {id : Nat} {c : Code} {α : Type} (L : α → List (Nat × AV)) (J : α → Heap → Prop) (h1 : WpC P N c env H (blockQ id (thenQ (fun env' H' => ∃ s, knows env' (L s) ∧ J s H') Q)))
    (h2 : ∀ s env' H', J s H' → dropQ Q .normal (Env.of (L s) env') H') : WpC P N (.block id c) env H Q := by
  refine WpC.closed ((WpC.block h1).mono ?_)
  intro e env' H' q
  cases e with
  | normal => obtain ⟨s, hk, hj⟩ := q; have := h2 s env' H' hj; rwa [hk.eq] at this
  | exit id => exact ⟨_, Heap.le_refl _, q⟩
  | goto l => exact ⟨_, Heap.le_refl _, q⟩
  | ret => exact ⟨_, Heap.le_refl _, q⟩
  | panic ch => exact ⟨_, Heap.le_refl _, q⟩
  | outgrown => exact ⟨_, Heap.le_refl _, q⟩
theorem Holds.lose_ {i : Nat} {r : Res} (h : Holds H0 rs H) (hi : rs[i]? = some r) : ∃ H', Heap.le H' H ∧ Holds H0 (rs.eraseIdx i) H' := by
  obtain ⟨H1, k1, k2, k3, k4⟩ := h.at_ hi
  exact ⟨H1, k1.le, k3⟩
theorem TCall.held {f : FuncId} {args : List AV} {g t : Nat} {cs : List AV} {v0 : AV} {E : List PanicEntry → Heap → Prop} (hH : Holds H0 [.cell g t cs] H) (h : TCall P f args H (fun v H' => v = v0 ∧ Holds H0 [.cell g t cs] H') E) : TCall P f args H (fun v H' => v = v0 ∧ H' = H) E :=
  h.mono (fun v H' ⟨h1, h2⟩ => ⟨h1, by
    obtain ⟨_, rfl, _, rfl⟩ := hH
    obtain ⟨_, rfl, _, rfl⟩ := h2
    rfl⟩) (fun _ _ h => h)
end
theorem ne_of_ix {α : Type} {f : α → List AV} {l : List α} {n : Int} {x : α} (h : Sh.ix l n = some x) : l.map f ≠ [] := by
  have := Sh.ix_lt h
  intro e
  have : l = [] := by simpa using e
  subst this; simp at *

section
variable {P : Program} {o : Oper} {env : Env} {H H0 : Heap} {K : AV → Heap → Prop} {E : List PanicEntry → Heap → Prop} {rs : List Res}
/-- an element of a slice that is owned is written, or a part of it -/
theorem WpO.setT {α : Type} (f : α → List AV) {l : List α} {n : Int} {y y' : α} {t ty : TypeId} {x z : Operand} {g c size off i : Nat} {v : AV} (h : Sh.ix l n = some y) (hh : Holds H0 rs H) (hi : rs[i]? = some (.own ty size (some (g, c)) (l.map f))) (ho : o.op = .store t x z)
    (hx : env.ev x = .lit (.pointer (some ⟨g, n.toNat * size + off, none⟩))) (hy : forceA (env.ev z) some = some v) (h1 : (cellsA v).all AV.one = true) (hs : P.cellsOf t = (cellsA v).length) (hz : Nat.ble 1 (cellsA v).length = true) (hfit : Nat.ble (off + (cellsA v).length) size = true) (hc : forceL (spliceA (f y) off (cellsA v)) some = some (f y'))
    (hk : ∀ H', Holds H0 (rs.set i (.own ty size (some (g, c)) ((l.set n.toNat y').map f))) H' → K (.lit undef) H') : WpO P o env H K E := by
  obtain ⟨H1, k1, k2, k3, k4⟩ := hh.at_ hi
  rcases Own.inv k1 with ⟨h1, _⟩ | ⟨g', c', e, hg, rfl⟩
  · cases h1
  injection e with e; injection e with e1 e2; subst e1; subst e2
  refine WpO.store_row (i := n.toNat) (f := off) ho hx (Heap.set_same _ _ _) (by rw [forceA_eq] at hy; injection hy) rfl (map_ix h) h1 hs (by have := Nat.le_of_ble_eq_true hz; omega) (Nat.le_of_ble_eq_true hfit) hc ?_
  rw [Heap.set_set]
  refine hk _ (k4 _ _ ?_)
  rw [List.map_set]
  exact Own.row g c hg rfl
/-- a slice is made -/
theorem WpO.makeT {α : Type} (f : α → List AV) {z : α} {n : Int} {b : Nat} {t e : TypeId} {x y : Operand} {k1 k2 : IntKind} (hc : 0 ≤ n ∧ n * (b : Int) ≤ 140737488355328 ∧ n ≤ 140737488355328) (ho : o.op = .makeSlice t x y) (hx : env.ev x = .lit (.int k1 n)) (hy : env.ev y = .lit (.int k2 n)) (hh : Holds H0 rs H)
    (he : elemT P t = some e) (hz : zeroA P e = some (f z)) (hb : P.bytesOf e = b) (hsz : P.cellsOf e = (f z).length) (hz0 : (f z).length ≠ 0)
    (hk : ∀ g c H', Holds H0 (.own e (f z).length (some (g, c)) ((List.replicate n.toNat z).map f) :: rs) H' → K (.own ((List.replicate n.toNat z).map f).length (some (g, c))) H') : WpO P o env H K E := by
  have hn : ((n.toNat : Nat) : Int) = n := by omega
  refine WpO.makeSlice (k1 := k1) (k2 := k2) (n := n.toNat) ho (by rw [hx]; congr 2; exact hn.symm) (by rw [hy]; congr 2; exact hn.symm) he hz hsz hz0 ?_ (by omega) fun g hg => ?_
  · rw [hb, Nat.mul_comm]
    have h1 := hc.2.1
    rw [← hn] at h1
    have h4 : ((n.toNat * b : Nat) : Int) ≤ 140737488355328 := by rw [Int.natCast_mul]; exact h1
    generalize n.toNat * b = m at h4 ⊢
    omega
  · have h1 : (List.replicate n.toNat z).map f = List.replicate n.toNat (f z) := by rw [List.map_replicate]
    have h2 := hk g n.toNat (H.set g (.row e (f z).length ((List.replicate n.toNat z).map f) n.toNat)) (hh.newRow hg)
    rw [h1] at h2
    rw [List.length_replicate] at h2
    exact h2
end
end Go.Vc
