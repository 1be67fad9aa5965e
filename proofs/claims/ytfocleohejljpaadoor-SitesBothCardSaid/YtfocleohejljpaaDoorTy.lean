/-
  The rules at plain data: how numbers, texts, lists stand in the calculus; reading an element, cutting, growing.
-/
import Derived.Test.YtfocleohejljpaaDoorHo
set_option linter.unusedVariables false
set_option linter.unusedSimpArgs false
namespace Go.Vc
open Go

abbrev iA (n : Int) : AV := .lit (.int .i64 n)
abbrev u8A (c : UInt8) : AV := .lit (.int .u8 c.toNat)
abbrev sA (l : List UInt8) : AV := .lit (.string ⟨⟨l⟩⟩)
abbrev bA (b : Bool) : AV := .lit (.bool b)
def cI (n : Int) : List AV := [iA n]
def cU (c : UInt8) : List AV := [u8A c]
def cS (l : List UInt8) : List AV := [sA l]
def cB (b : Bool) : List AV := [bA b]
def cL {α : Type} (size : Nat) (f : α → List AV) (l : List α) : List AV := [.rows size (l.map f)]
theorem one_cI (x : Int) : (cI x).all AV.one = true := rfl
theorem one_cU (x : UInt8) : (cU x).all AV.one = true := rfl
theorem one_cS (x : List UInt8) : (cS x).all AV.one = true := rfl
theorem one_cB (x : Bool) : (cB x).all AV.one = true := rfl
theorem one_cL {α : Type} (size : Nat) (f : α → List AV) (x : List α) : (cL size f x).all AV.one = true := rfl

theorem len_map {α : Type} (f : α → List AV) (l : List α) : (AV.lit (.int .i64 ((l.map f).length : Nat))) = iA (l.length : Nat) := by rw [List.length_map]
theorem rows_drop {α : Type} (size : Nat) (f : α → List AV) (l : List α) (a : Nat) : AV.rows size ((l.map f).drop a) = .rows size ((l.drop a).map f) := by rw [List.map_drop]
theorem rows_take {α : Type} (size : Nat) (f : α → List AV) (l : List α) (b : Nat) : AV.rows size ((l.map f).take b) = .rows size ((l.take b).map f) := by rw [List.map_take]
theorem rows_cut {α : Type} (size : Nat) (f : α → List AV) (l : List α) (a b : Nat) : AV.rows size (((l.map f).drop a).take (b - a)) = .rows size (((l.drop a).take (b - a)).map f) := by rw [List.map_take, List.map_drop]
theorem map_ix {α : Type} {f : α → List AV} {l : List α} {n : Int} {x : α} (h : Sh.ix l n = some x) : (l.map f)[n.toNat]? = some (f x) := map_at (Sh.ix_spec h).2

section
variable {P : Program} {o : Oper} {env : Env} {H H0 : Heap} {K : AV → Heap → Prop} {E : List PanicEntry → Heap → Prop} {rs : List Res}
/-- the address of an element of a list that is read -/
theorem Exact.ixr {α : Type} (f : α → List AV) {l : List α} {n : Int} {y : α} {t e0 : TypeId} {x i : Operand} {k0 : IntKind} {size : Nat} (h : Sh.ix l n = some y) (ho : o.op = .indexAddr t x i) (hx : env.ev x = .rows size (l.map f)) (hi : env.ev i = .lit (.int k0 n))
    (ht : elemT P t = some e0) (hsz : P.cellsOf e0 = size) (hz : size ≠ 0) : Exact P o env H (.rop (f y)) := by
  have h0 := (Sh.ix_spec h).1
  refine Exact.indexAddr_rows (k0 := k0) (k := n.toNat) ho hx ?_ (map_ix h) ht hsz hz
  rw [hi]
  congr 2
  show n = ((n.toNat : Nat) : Int)
  omega
/-- .. of a slice that is owned -/
theorem Exact.ixo {α : Type} (f : α → List AV) {l : List α} {n : Int} {y : α} {t e0 : TypeId} {x i : Operand} {k0 : IntKind} {size g c : Nat} (h : Sh.ix l n = some y) (ho : o.op = .indexAddr t x i) (hx : env.ev x = .own (l.map f).length (some (g, c))) (hi : env.ev i = .lit (.int k0 n))
    (ht : elemT P t = some e0) (hsz : P.cellsOf e0 = size) (hz : size ≠ 0) : Exact P o env H (.lit (.pointer (some ⟨g, n.toNat * size, none⟩))) := by
  have h0 := (Sh.ix_spec h).1
  refine Exact.indexAddr_buf (k0 := k0) (k := n.toNat) ho hx ?_ (by rw [List.length_map]; exact Sh.ix_lt h) ht hsz hz
  rw [hi]
  congr 2
  show n = ((n.toNat : Nat) : Int)
  omega
/-- what stands there -/
theorem Exact.ldo {α : Type} (f : α → List AV) {l : List α} {n : Int} {y : α} {t ty : TypeId} {x : Operand} {g c size off i : Nat} {v : AV} (h : Sh.ix l n = some y) (hh : Holds H0 rs H) (hi : rs[i]? = some (.own ty size (some (g, c)) (l.map f))) (ho : o.op = .load t x)
    (hx : env.ev x = .lit (.pointer (some ⟨g, n.toNat * size + off, none⟩))) (hf : off ≤ size) (hl : ldv P t ((f y).drop off) = some v) : Exact P o env H v :=
  Exact.load_row ho hx (hh.row hi) rfl hf (map_ix h) hl
/-- a byte of a text -/
theorem Exact.ixs {l : List UInt8} {n : Int} {c : UInt8} {t : TypeId} {x i : Operand} {k0 : IntKind} (h : Sh.ix l n = some c) (ho : o.op = .index t x i) (hx : env.ev x = sA l) (hi : env.ev i = .lit (.int k0 n)) (hu : P.underlying t = some .string) : Exact P o env H (u8A c) := by
  obtain ⟨h0, h1⟩ := Sh.ix_spec h
  have hlt := Sh.ix_lt h
  have : pev P o.op env = some (.lit (.int .u8 (l.getD n.toNat 0).toNat), [0 ≤ n ∧ n.toNat < l.length]) := by
    rw [ho]; simp only [pev, hu, hx, hi]
  have := pev_sound this ⟨h0, hlt⟩ H
  have hg : l.getD n.toNat 0 = c := by rw [List.getD_eq_getElem?_getD, h1]; rfl
  rwa [hg] at this
/-- an element of an array, that stands as a value -/
theorem Exact.ixa {α : Type} (f : α → AV) {l : List α} {n : Int} {y : α} {t e0 : TypeId} {x i : Operand} {k0 : IntKind} {len : Nat} (h : Sh.ix l n = some y) (ho : o.op = .index t x i) (hx : env.ev x = .agg (l.map f)) (hi : env.ev i = .lit (.int k0 n)) (hu : P.underlying t = some (.array len e0)) (hlen : l.length = len)
    (h1 : P.cellsOf e0 = 1) (h2 : (P.underlying e0 = some .string)) : Exact P o env H (f y) := by
  obtain ⟨h0, hk⟩ := Sh.ix_spec h
  have hlt := Sh.ix_lt h
  apply Exact.of_run (by simp [noDefer, ho])
  intro a w ⟨hr, hh⟩
  rw [ho] at hr
  have g0 := hr x (by simp [Op.operands])
  have g1 := hr i (by simp [Op.operands])
  rw [hx] at g0; rw [hi] at g1
  obtain ⟨us, e0', hv⟩ := g0.agg_inv
  have e1 := g1.lit_inv
  obtain ⟨u, hu1, hu2⟩ := hv.at_ (k := n.toNat) (x := f y) (by rw [List.getElem?_map, hk]; rfl)
  have hso := cellsOf_run (w := w) (P := P) (t := e0) h1 (by simp)
  refine ⟨u, ?_, hu2⟩
  have hbd : (0 : Int) ≤ n ∧ n < (len : Int) := ⟨h0, by omega⟩
  have hia : (isAgg e0).run P w = .ok false w := by
    unfold isAgg
    simp only [Sem.run_bind, run_underlying h2, Result.andThen_ok, Sem.run_pure]
  unfold execOp
  rw [ho]
  simp only [e0', e1, Instr.index, asIntOf, Sem.run_bind, Sem.run_pure, Result.andThen_ok, run_underlying hu]
  rw [if_pos hbd]
  simp only [Sem.run_bind, hso, Result.andThen_ok, Nat.mul_one, part, hia, Sem.run_pure, List.getElem?_toArray, hu1, Bool.false_eq_true, if_false]
end
end Go.Vc
