/-
  Part of the proof of If.
-/
import Derived.Test.YtgmpeddopfnioaaGreatDoorQiVsx
import Derived.Test.YtgmpeddopfnioaaGreatDoorQiShx
import Derived.Lib.AppendStr
import Derived.Lib.UnsafeStr
import Derived.Lib.Builder
import Derived.Laws.Externs
import Derived.Below
import Derived.Scope
import Derived.AtR

set_option linter.unusedVariables false
set_option linter.unusedSimpArgs false
namespace Go.Vc
open Go
abbrev iA (n : Int) : AV := .lit (.int .i64 n)
abbrev u8A (c : UInt8) : AV := .lit (.int .u8 c.toNat)
abbrev sA (l : List UInt8) : AV := .lit (.string ⟨⟨l⟩⟩)
abbrev bA (b : Bool) : AV := .lit (.bool b)
def cI (n : Int) : List AV := [iA n]
def cU (c : UInt8) : List AV := [u8A c]
def cS (l : List UInt8) : List AV := [sA l]
def cL {α : Type} (size : Nat) (f : α → List AV) (l : List α) : List AV := [.rows size (l.map f)]
theorem one_cS (x : List UInt8) : (cS x).all AV.one = true := rfl
theorem len_map {α : Type} (f : α → List AV) (l : List α) : (AV.lit (.int .i64 ((l.map f).length : Nat))) = iA (l.length : Nat) := by rw [List.length_map]
theorem rows_drop {α : Type} (size : Nat) (f : α → List AV) (l : List α) (a : Nat) : AV.rows size ((l.map f).drop a) = .rows size ((l.drop a).map f) := by rw [List.map_drop]
theorem rows_cut {α : Type} (size : Nat) (f : α → List AV) (l : List α) (a b : Nat) : AV.rows size (((l.map f).drop a).take (b - a)) = .rows size (((l.drop a).take (b - a)).map f) := by rw [List.map_take, List.map_drop]
theorem map_ix {α : Type} {f : α → List AV} {l : List α} {n : Int} {x : α} (h : Sh.ix l n = some x) : (l.map f)[n.toNat]? = some (f x) := map_at (Sh.ix_spec h).2
section
variable {P : Program} {o : Oper} {env : Env} {H H0 : Heap} {K : AV → Heap → Prop} {E : List PanicEntry → Heap → Prop} {rs : List Res}
theorem uR {α : Type} (f : α → List AV) {l : List α} {n : Int} {y : α} {t e0 : TypeId} {x i : Operand} {k0 : IntKind} {size : Nat} (h : Sh.ix l n = some y) (ho : o.op = .indexAddr t x i) (hx : env.ev x = .rows size (l.map f)) (hi : env.ev i = .lit (.int k0 n))
  (ht : elemT P t = some e0) (hsz : P.cellsOf e0 = size) (hz : size ≠ 0) : Exact P o env H (.rop (f y)) := by
 have h0 := (Sh.ix_spec h).1
 refine Exact.indexAddr_rows (k0 := k0) (k := n.toNat) ho hx ?_ (map_ix h) ht hsz hz
 rw [hi]
 congr 2
 show n = ((n.toNat : Nat) : Int)
 omega
theorem vP {α : Type} (f : α → List AV) {l : List α} {n : Int} {y : α} {t e0 : TypeId} {x i : Operand} {k0 : IntKind} {size g c : Nat} (h : Sh.ix l n = some y) (ho : o.op = .indexAddr t x i) (hx : env.ev x = .own (l.map f).length (some (g, c))) (hi : env.ev i = .lit (.int k0 n))
  (ht : elemT P t = some e0) (hsz : P.cellsOf e0 = size) (hz : size ≠ 0) : Exact P o env H (.lit (.pointer (some ⟨g, n.toNat * size, none⟩))) := by
 have h0 := (Sh.ix_spec h).1
 refine Exact.indexAddr_buf (k0 := k0) (k := n.toNat) ho hx ?_ (by rw [List.length_map]; exact Sh.ix_lt h) ht hsz hz
 rw [hi]
 congr 2
 show n = ((n.toNat : Nat) : Int)
 omega
theorem Exact.ldo {α : Type} (f : α → List AV) {l : List α} {n : Int} {y : α} {t ty : TypeId} {x : Operand} {g c size off i : Nat} {v : AV} (h : Sh.ix l n = some y) (hh : Holds H0 rs H) (hi : rs[i]? = some (.own ty size (some (g, c)) (l.map f))) (ho : o.op = .load t x)
  (hx : env.ev x = .lit (.pointer (some ⟨g, n.toNat * size + off, none⟩))) (hf : off ≤ size) (hl : ldv P t ((f y).drop off) = some v) : Exact P o env H v :=
 Exact.load_row ho hx (hh.row hi) rfl hf (map_ix h) hl
theorem Exact.ixs {l : List UInt8} {n : Int} {c : UInt8} {t : TypeId} {x i : Operand} {k0 : IntKind} (h : Sh.ix l n = some c) (ho : o.op = .index t x i) (hx : env.ev x = sA l) (hi : env.ev i = .lit (.int k0 n)) (hu : P.underlying t = some .string) : Exact P o env H (u8A c) := by
 obtain ⟨h0, h1⟩ := Sh.ix_spec h
 have hlt := Sh.ix_lt h
 have : pev P o.op env = some (.lit (.int .u8 (l.getD n.toNat 0).toNat), [0 ≤ n ∧ n.toNat < l.length]) := by
  rw [ho]; simp only [pev, hu, hx, hi]
 have := pev_sound this ⟨h0, hlt⟩ H
 have hg : l.getD n.toNat 0 = c := by rw [List.getD_eq_getElem?_getD, h1]; rfl
 rwa [hg] at this
theorem Exact.ixa {α : Type} (f : α → AV) {l : List α} {n : Int} {y : α} {t e0 : TypeId} {x i : Operand} {k0 : IntKind} {len : Nat} (h : Sh.ix l n = some y) (ho : o.op = .index t x i) (hx : env.ev x = .agg (l.map f)) (hi : env.ev i = .lit (.int k0 n)) (hu : P.underlying t = some (.array len e0)) (hlen : l.length = len)
  (h1 : P.cellsOf e0 = 1) (h2 : (P.underlying e0 = some .string)) : Exact P o env H (f y) := by
 obtain ⟨h0, hk⟩ := Sh.ix_spec h
 have hlt := Sh.ix_lt h
 apply vB (by simp [noDefer, ho])
 intro a w ⟨hr, hh⟩
 rw [ho] at hr
 have g0 := hr x (by simp [Op.operands])
 have g1 := hr i (by simp [Op.operands])
 rw [hx] at g0; rw [hi] at g1
 obtain ⟨us, e0', hv⟩ := g0.agg_inv
 have e1 := g1.lit_inv
 obtain ⟨u, hu1, hu2⟩ := hv.at_ (k := n.toNat) (x := f y) (by rw [List.getElem?_map, hk]; rfl)
 have hso := cellsOf_run (w := w) (P := P) (t := e0) h1 (by simp)
 refine ⟨u, ?_, hu2⟩
 have hbd : (0 : Int) ≤ n ∧ n < (len : Int) := ⟨h0, by omega⟩
 have hia : (isAgg e0).run P w = .ok false w := by
  unfold isAgg
  simp only [Sem.run_bind, run_underlying h2, Result.andThen_ok, Sem.run_pure]
 unfold execOp
 rw [ho]
 simp only [e0', e1, Instr.index, asIntOf, Sem.run_bind, Sem.run_pure, Result.andThen_ok, run_underlying hu]
 rw [if_pos hbd]
 simp only [Sem.run_bind, hso, Result.andThen_ok, Nat.mul_one, part, hia, Sem.run_pure, List.getElem?_toArray, hu1, Bool.false_eq_true, if_false]
end
end Go.Vc
set_option linter.unusedVariables false
set_option linter.unusedSimpArgs false
namespace Go.Vc
open Go
def dropQ (Q : QC) : QC := fun e env H => ∃ H2, Heap.le H2 H ∧ Q e env H2
section
variable {P : Program} {N : Nat} {env : Env} {H H0 : Heap} {Q : QC} {rs : List Res}
theorem WpC.closed {c : Code} (h : WpC P N c env H (dropQ Q)) : WpC P N c env H Q := fun fr n a w r =>
 wpIn_mono (h fr n a w r) fun e a' w' ⟨env', H', ev, r', H2, hle, q⟩ => ⟨env', H2, ev.trans (Evol.drop w' hle), r'.drop hle, q⟩
theorem uJ {id : Nat} {l : List Oper} (h : WpOps P N l.toArray (dropQ Q) l env H) : WpC P N (.region id l.toArray false) env H Q := WpC.closed (WpC.region h)
theorem WpC.drawDI {id : Nat} {l : List Oper} (Inv : Heap → Prop) (cs : List Cls) (ord : List Nat) (hm : P.follows .mixedOrders = true) (hok : drawOk l.toArray cs (ancOf l) ord = true) (hI : Inv H) (h : WpPi P N l.toArray Inv (dropQ Q) (clsAt cs) ord env H) : WpC P N (.region id l.toArray true) env H Q := WpC.closed (WpC.drawI cs ord hm hok hI h)
theorem wB {id : Nat} {l : List Oper} (cs : List Cls) (ord : List Nat) (hm : P.follows .mixedOrders = true) (hok : drawOk l.toArray cs (ancOf l) ord = true) (h : WpPi P N l.toArray (fun _ => True) (dropQ Q) (clsAt cs) ord env H) : WpC P N (.region id l.toArray true) env H Q := WpC.closed (WpC.draw cs ord hm hok h)
theorem uI (h : dropQ Q .normal env H) : WpC P N .skip env H Q := WpC.closed (WpC.skip h)
theorem WpC.exitD {id : Nat} (h : dropQ Q (.exit id) env H) : WpC P N (.exit id) env H Q := WpC.closed (WpC.exit h)
theorem vA {id : Nat} {c : Code} {α : Type} (L : α → List (Nat × AV)) (J : α → Heap → Prop) (h1 : WpC P N c env H (blockQ id (thenQ (fun env' H' => ∃ s, knows env' (L s) ∧ J s H') Q)))
    (h2 : ∀ s env' H', J s H' → dropQ Q .normal (Env.of (L s) env') H') : WpC P N (.block id c) env H Q := by
  refine WpC.closed ((WpC.block h1).mono ?_)
  intro e env' H' q
  cases e with
  | normal => obtain ⟨s, hk, hj⟩ := q; have := h2 s env' H' hj; rwa [hk.eq] at this
  | exit id => exact ⟨_, uD _, q⟩
  | goto l => exact ⟨_, uD _, q⟩
  | ret => exact ⟨_, uD _, q⟩
  | panic ch => exact ⟨_, uD _, q⟩
  | outgrown => exact ⟨_, uD _, q⟩
theorem Holds.lose_ {i : Nat} {r : Res} (h : Holds H0 rs H) (hi : rs[i]? = some r) : ∃ H', Heap.le H' H ∧ Holds H0 (rs.eraseIdx i) H' := by
 obtain ⟨H1, k1, k2, k3, k4⟩ := h.at_ hi
 exact ⟨H1, k1.le, k3⟩
theorem TCall.held {f : FuncId} {args : List AV} {g t : Nat} {cs : List AV} {v0 : AV} {E : List PanicEntry → Heap → Prop} (hH : Holds H0 [.cell g t cs] H) (h : TCall P f args H (fun v H' => v = v0 ∧ Holds H0 [.cell g t cs] H') E) : TCall P f args H (fun v H' => v = v0 ∧ H' = H) E :=
 h.mono (fun v H' ⟨h1, h2⟩ => ⟨h1, by
  obtain ⟨_, rfl, _, rfl⟩ := hH
  obtain ⟨_, rfl, _, rfl⟩ := h2
  rfl⟩) (fun _ _ h => h)
end
theorem ne_of_ix {α : Type} {f : α → List AV} {l : List α} {n : Int} {x : α} (h : Sh.ix l n = some x) : l.map f ≠ [] := by
 have := Sh.ix_lt h
 intro e
 have : l = [] := by simpa using e
 subst this; simp at *
section
variable {P : Program} {o : Oper} {env : Env} {H H0 : Heap} {K : AV → Heap → Prop} {E : List PanicEntry → Heap → Prop} {rs : List Res}
theorem wA {α : Type} (f : α → List AV) {l : List α} {n : Int} {y y' : α} {t ty : TypeId} {x z : Operand} {g c size off i : Nat} {v : AV} (h : Sh.ix l n = some y) (hh : Holds H0 rs H) (hi : rs[i]? = some (.own ty size (some (g, c)) (l.map f))) (ho : o.op = .store t x z)
    (hx : env.ev x = .lit (.pointer (some ⟨g, n.toNat * size + off, none⟩))) (hy : forceA (env.ev z) some = some v) (h1 : (cellsA v).all AV.one = true) (hs : P.cellsOf t = (cellsA v).length) (hz : Nat.ble 1 (cellsA v).length = true) (hfit : Nat.ble (off + (cellsA v).length) size = true) (hc : forceL (spliceA (f y) off (cellsA v)) some = some (f y'))
    (hk : ∀ H', Holds H0 (rs.set i (.own ty size (some (g, c)) ((l.set n.toNat y').map f))) H' → K (.lit undef) H') : WpO P o env H K E := by
  obtain ⟨H1, k1, k2, k3, k4⟩ := hh.at_ hi
  rcases wH k1 with ⟨h1, _⟩ | ⟨g', c', e, hg, rfl⟩
  · cases h1
  injection e with e; injection e with e1 e2; subst e1; subst e2
  refine WpO.store_row (i := n.toNat) (f := off) ho hx (uO _ _ _) (by rw [forceA_eq] at hy; injection hy) rfl (map_ix h) h1 hs (by have := Nat.le_of_ble_eq_true hz; omega) (Nat.le_of_ble_eq_true hfit) hc ?_
  rw [vT]
  refine hk _ (k4 _ _ ?_)
  rw [List.map_set]
  exact Own.row g c hg rfl
theorem WpO.makeT {α : Type} (f : α → List AV) {z : α} {n : Int} {b : Nat} {t e : TypeId} {x y : Operand} {k1 k2 : IntKind} (hc : 0 ≤ n ∧ n * (b : Int) ≤ 140737488355328 ∧ n ≤ 140737488355328) (ho : o.op = .makeSlice t x y) (hx : env.ev x = .lit (.int k1 n)) (hy : env.ev y = .lit (.int k2 n)) (hh : Holds H0 rs H)
  (he : elemT P t = some e) (hz : zeroA P e = some (f z)) (hb : P.bytesOf e = b) (hsz : P.cellsOf e = (f z).length) (hz0 : (f z).length ≠ 0)
  (hk : ∀ g c H', Holds H0 (.own e (f z).length (some (g, c)) ((List.replicate n.toNat z).map f) :: rs) H' → K (.own ((List.replicate n.toNat z).map f).length (some (g, c))) H') : WpO P o env H K E := by
 have hn : ((n.toNat : Nat) : Int) = n := by omega
 refine WpO.makeSlice (k1 := k1) (k2 := k2) (n := n.toNat) ho (by rw [hx]; congr 2; exact hn.symm) (by rw [hy]; congr 2; exact hn.symm) he hz hsz hz0 ?_ (by omega) fun g hg => ?_
 ·rw [hb, Nat.mul_comm]
  have h1 := hc.2.1
  rw [← hn] at h1
  have h4 : ((n.toNat * b : Nat) : Int) ≤ 140737488355328 := by rw [Int.natCast_mul]; exact h1
  generalize n.toNat * b = m at h4 ⊢
  omega
 ·have h1 : (List.replicate n.toNat z).map f = List.replicate n.toNat (f z) := by rw [List.map_replicate]
  have h2 := hk g n.toNat (H.set g (.row e (f z).length ((List.replicate n.toNat z).map f) n.toNat)) (hh.newRow hg)
  rw [h1] at h2
  rw [List.length_replicate] at h2
  exact h2
end
end Go.Vc
set_option linter.unusedSimpArgs false
namespace Go.Vc
open Go Go.Sh
def valA : GVal → AV
 | .num n => .ifc 195 (iA n)
 | .un s x => .ifc 210 (.agg [sA s, valA x])
 | .bin s x y => .ifc 194 (.agg [sA s, valA x, valA y])
 | .cho c x y => .ifc 143 (.agg [valA c, valA x, valA y])
def cGFile (x : GFile) : List AV := [(sA x.path), (sA x.text)]
def cGFault (x : GFault) : List AV := [(iA x.file_), (iA x.line_), (iA x.e)]
def cGTok (x : GTok) : List AV := [(iA x.kind), (sA x.text), (iA x.file_), (iA x.from_), (iA x.to), (bA x.blank)]
theorem one_cGTok (x : GTok) : (cGTok x).all AV.one = true := rfl
def cGLine (x : GLine) : List AV := [(iA x.kind), (iA x.first), (iA x.n), (AV.rows 6 (List.map cGTok x.toks))]
theorem one_cGLine (x : GLine) : (cGLine x).all AV.one = true := rfl
def cGMacro (x : GMacro) : List AV := [(sA x.name), (bA x.func), (AV.rows 1 (List.map cS x.params)), (bA x.variadic), (AV.rows 6 (List.map cGTok x.body))]
theorem one_cGMacro (x : GMacro) : (cGMacro x).all AV.one = true := rfl
def cGUnit_fault (x : GUnit_fault) : List AV := cGFault x.at_
def cGPptok_reader (x : GPptok_reader) : List AV := [(sA x.s), (iA x.at_)]
def cGChar (x : GChar) : List AV := [(u8A x.b), (iA x.at_)]
theorem one_cGChar (x : GChar) : (cGChar x).all AV.one = true := rfl
def cGIfexpr_reader (x : GIfexpr_reader) : List AV := [(AV.rows 6 (List.map cGTok x.l)), (bA x.wrong), (iA x.bad)]
def cGIfexpr_choice (x : GIfexpr_choice) : List AV := [(valA x.c), (valA x.x), (valA x.y)]
def cGLeaf (x : GLeaf) : List AV := [(iA x.line_), (iA x.end_), (AV.rows 2 [])]
theorem one_cGLeaf (x : GLeaf) : (cGLeaf x).all AV.one = true := rfl
def cGBranch (x : GBranch) : List AV := [(iA x.line_), (AV.rows 3 (List.map cGLeaf x.items))]
theorem one_cGBranch (x : GBranch) : (cGBranch x).all AV.one = true := rfl
def cGItem (x : GItem) : List AV := [(iA x.line_), (iA x.end_), (AV.rows 2 (List.map cGBranch x.branches))]
theorem one_cGItem (x : GItem) : (cGItem x).all AV.one = true := rfl
def cGIfexpr_binary (x : GIfexpr_binary) : List AV := [(sA x.sign), (valA x.x), (valA x.y)]
def cGIfexpr_unary (x : GIfexpr_unary) : List AV := [(sA x.sign), (valA x.x)]
def cGMacro_reader (x : GMacro_reader) : List AV := [(AV.rows 6 (List.map cGTok x.l))]
def cGExpand_token (x : GExpand_token) : List AV := cGTok x.tok ++ [(AV.rows 1 (List.map cS x.hide))] ++ [(bA x.mark)] ++ [(bA x.op)]
theorem one_cGExpand_token (x : GExpand_token) : (cGExpand_token x).all AV.one = true := rfl
def errA : Option GFault → AV
 | none => .lit .nilIface
 | some f => .ifc 70 (.rop (cGFault f))
def ptrA : Option GFault → AV
 | none => .lit (.pointer none)
 | some f => .rop (cGFault f)
def cPtr (x : Option GFault) : List AV := [ptrA x]
def cGUnit_file (g : Nat) (x : GUnit_file) : List AV := [.lit (.pointer (some ⟨g, 0, none⟩)), iA x.number, .rows 4 (List.map cGLine x.lines), iA x.deep]
def kSM (s : List UInt8) : Value := .string ⟨⟨s⟩⟩
def kvM (l : List (List UInt8 × GMacro)) : List (Value × AV) := l.map fun p => (kSM p.1, .agg (cGMacro p.2))
theorem leaf_up (l : List GLeaf) : AV.rows 3 (List.map cGLeaf l) = AV.rows 3 (List.map cGItem (List.map upL l)) := by rw [List.map_map]; rfl
end Go.Vc
set_option linter.unusedVariables false
set_option linter.unusedSimpArgs false
namespace Go.Vc
open Go
section
variable {P : Program}
end
section rules
variable {P : Program} {o : Oper} {env : Env} {H H0 : Heap} {K : AV → Heap → Prop} {E : List PanicEntry → Heap → Prop}
theorem Exact.same {f : FuncId} {fn : Func} {x : Operand} {ts : Array TypeId} {v : AV} (ho : o.op = .call { callee := .value (.func f), args := #[x], argTypes := ts }) (hf : P.funcs[f]? = some fn) (hname : (fn.name == "runtime.NumGoroutine") = false) (hb : fn.body.isNone = true) (hn : Extern.findNext fn = none)
  (he : Extern.find fn = some Extern.AbiNoEscape.same) (hx : env.ev x = v) : Exact P o env H v := by
 apply vB (by simp [noDefer, ho])
 intro a w ⟨hr, hh⟩
 rw [ho] at hr
 have e0 := hr x (by simp [Op.operands, Call.operands])
 rw [hx] at e0
 refine ⟨_, ?_, e0⟩
 rw [Conc.execOp_call_func ho, run_callFunc_extern hf hname hb hn he, show (#[x] : Array Operand).map a.eval = #[a.eval x] by simp, Lib.run_noEscape]
 rfl
end rules
theorem Evol.of_below {H : Heap} {w w' : World} (h : RowKit.Below w.heap.size w w') : Evol H w H w' :=
 ⟨h.os, h.tape, h.output, h.size, fun k hk _ => h.block k hk, fun k hk => .inl hk⟩
theorem HeapR.below {H : Heap} {w w' : World} (hh : HeapR w H) (h : RowKit.Below w.heap.size w w') : HeapR w' H := fun k o hk =>
 (hh k o hk).mono h.size (Evol.of_below (H := H) h).hk (h.block k (hh k o hk).lt)
theorem tcall_lit {P : Program} {f : FuncId} {H : Heap} {us : List Value} {u : Value} (h : ∀ w, HeapR w H → Calls P f us.toArray w fun e w' => e = .returned u ∧ RowKit.Below w.heap.size w w') : TCall P f (us.map .lit) H (fun v H' => v = .lit u ∧ H' = H) noE := fun vs w hv hh => by
 obtain rfl := VRs.lits hv
 refine (h w hh).mono fun e w' ⟨he, hb⟩ => ?_
 subst he
 exact ⟨H, Evol.of_below hb, hh.below hb, .lit u, .lit u, rfl, rfl⟩
theorem tcall_lit0 {P : Program} {f : FuncId} {H : Heap} {us : List Value} {u : Value} (h : ∀ w, HeapR w H → Calls P f us.toArray w fun e w' => e = .returned u ∧ w' = w) : TCall P f (us.map .lit) H (fun v H' => v = .lit u ∧ H' = H) noE :=
 tcall_lit fun w hh => (h w hh).mono fun e w' ⟨h1, h2⟩ => ⟨h1, by subst h2; exact RowKit.Below.refl _ _⟩
theorem HeapR.cell0 {H : Heap} {w : World} {g : Nat} {v : Value} {vs : List Value} (h : HeapR w H) (hg : H g = some (.ro (v :: vs))) : w.cell? ⟨g, 0, none⟩ = some v := by
 obtain ⟨cur, t, z, h1, h2⟩ := h g _ hg
 have := h2 0 v rfl
 simp [World.cell?, h1]; exact this
end Go.Vc
set_option linter.unusedVariables false
set_option linter.unusedSimpArgs false
namespace Go.Vc
open Go
theorem own_set {α : Type} (f : α → List AV) (l : List α) (n : Nat) (y : α) (p : Option (Nat × Nat)) : AV.own (l.map f).length p = .own ((l.set n y).map f).length p := by simp
def Heap.one (g : Nat) (o : AObj) : Heap := fun k => if k = g then some o else none
theorem Heap.one_at (g : Nat) (o : AObj) : Heap.one g o g = some o := by simp [Heap.one]
theorem Heap.one_le {H : Heap} {g : Nat} {o : AObj} (h : H g = some o) : (Heap.one g o).le H := fun k x hk => by
 unfold Heap.one at hk
 split at hk
 ·rename_i e; subst e; injection hk with hk; subst hk; exact h
 ·cases hk
section
variable {P : Program} {N : Nat} {env : Env} {H H0 : Heap} {Q : QC} {rs : List Res}
theorem WpC.rangeS {σ ρ α η : Type} {g : Operand} {ps : Array Tmp} {assign body : Code} {gf : FuncId} {cap : List AV} {Hs : Heap} (f : σ → α → Option (Sh.Step σ ρ)) (l : List α) (enc : α → List AV) (R : σ → η → List Res) (o : σ ⊕ ρ) (s0 : σ) (a0 : η) (h : Sh.foldS f l s0 = some o)
    (hg : env.ev g = .clo (.func gf) [] cap) (he : enterable P gf = true) (hps : ∀ p ∈ ps.toList, Nat.blt p N = true) (hseq : TSeq P gf cap Hs (l.map enc)) (hlen : ∀ x, (enc x).length = ps.size) (hs : ∀ s a H, Holds H0 (R s a) H → Hs.le H) (hj : Holds H0 (R s0 a0) H)
    (round : ∀ x s a st H, f s x = some st → (∀ y, st = .done y → Sum.inr y = o) → Holds H0 (R s a) H → WpC P N assign (env.putL ps.toList (enc x)) H (thenQ (fun env' H'' => WpC P N body env' H'' (rangeQ (fun H' => ∃ s' a', st = .next s' ∧ Holds H0 (R s' a') H') Q env)) (fun _ _ _ => False)))
    (done : ∀ s a H, o = .inl s → Holds H0 (R s a) H → Q .normal env H) (hq : quietN N = false := by rfl) : WpC P N (.rangeFunc g ps assign body) env H Q := by
  refine WpC.range (H0 := Hs) (fun k H' => ∃ s a, Sh.foldS f (l.drop k) s = some o ∧ Holds H0 (R s a) H') hg he hps hseq (fun args ha => ?_) (fun k H' ⟨s, a, _, hh⟩ => hs s a H' hh) ⟨s0, a0, by simpa using h, hj⟩ ?_ ?_ hq
  · obtain ⟨x, _, rfl⟩ := List.mem_map.1 ha
    exact hlen x
  · rintro k args H' hk ⟨s, a, hf, hh⟩
    rw [List.getElem?_map] at hk
    obtain ⟨x, hx, rfl⟩ := Option.map_eq_some_iff.1 hk
    obtain ⟨hlt, hx'⟩ := List.getElem?_eq_some_iff.1 hx
    have hd : l.drop k = x :: l.drop (k + 1) := by rw [List.drop_eq_getElem_cons hlt, hx']
    rw [hd] at hf
    cases hfx : f s x with
    | none => simp only [Sh.foldS, hfx] at hf; cases hf
    | some st =>
      refine (round x s a st H' hfx (fun y hy => ?_) hh).mono ?_
      · subst hy
        simp only [Sh.foldS, hfx, Option.some.injEq] at hf
        exact hf
      · intro e env1 H1 q
        cases e with
        | normal =>
          refine WpC.mono (show WpC P N body env1 H1 _ from q) ?_
          intro e env2 H2 q
          cases e with
          | normal =>
            obtain ⟨s', a', rfl, h3⟩ := q
            rw [Sh.foldS_next hfx] at hf
            exact ⟨s', a', hf, h3⟩
          | exit id => exact q
          | goto l => exact q
          | ret => exact q
          | panic ch => exact q
          | outgrown => exact q
        | exit id => exact q
        | goto l => exact q
        | ret => exact q
        | panic ch => exact q
        | outgrown => exact q
  · rintro H' ⟨s, a, hf, hh⟩
    rw [List.length_map, List.drop_length] at hf
    injection hf with hf
    exact done s a H' hf.symm hh
end
section
variable {P : Program} {o : Oper} {env : Env} {H H0 : Heap} {K : AV → Heap → Prop} {E : List PanicEntry → Heap → Prop} {rs : List Res}
theorem WpO.callN {f : FuncId} {args : Array Operand} {ts : Array TypeId} {xs : List AV} {t : Nat} {cs : List AV} {V : Nat → AV} (ho : o.op = .call { callee := .value (.func f), args := args, argTypes := ts }) (he : enterable P f = true) (hx : forceL (args.toList.map env.ev) some = some xs) (hh : Holds H0 rs H)
  (h : ∀ H, TCall P f xs H (fun v H' => ∃ g, H g = none ∧ v = V g ∧ H' = H.set g (.cells t cs)) noE) (hk : ∀ g H', Holds H0 (.cell g t cs :: rs) H' → K (V g) H') : WpO P o env H K E := by
 refine WpO.call ho he hx ((h H).mono ?_ (fun _ _ h => h.elim))
 rintro _ _ ⟨g, hg, rfl, rfl⟩
 exact hk g _ (hh.new hg)
end
def GlobI (g : Nat) (H : Heap) : Prop := ∃ m, H g = some (.ro [.int .i64 m])
theorem GlobI.le {g : Nat} {H H' : Heap} (h : GlobI g H) (hl : H.le H') : GlobI g H' := by obtain ⟨m, hm⟩ := h; exact ⟨m, hl _ _ hm⟩
theorem GlobI.up {g : Nat} {H H0 : Heap} {rs : List Res} (h : GlobI g H0) (hH : Holds H0 rs H) : GlobI g H := h.le hH.le
theorem ro_held {H H0 : Heap} {g t k : Nat} {cs : List AV} {vs : List Value} (hH : Holds H0 [.cell g t cs] H) (h : H k = some (.ro vs)) : H0 k = some (.ro vs) := by
  obtain ⟨_, rfl, h0, rfl⟩ := hH
  by_cases e : k = g
  · subst e; rw [uO] at h; cases h
  · rw [uS _ _ e] at h; exact h
theorem GlobI.held {G : Nat} {H H0 : Heap} {g t : Nat} {cs : List AV} (h : GlobI G H) (hH : Holds H0 [.cell g t cs] H) : GlobI G H0 := by obtain ⟨m, hm⟩ := h; exact ⟨m, ro_held hH hm⟩
theorem TYield.mono {P : Program} {l : Nat} {args : List AV} {H : Heap} {K K' : AV → Heap → Prop} (h : TYield P l args H K) (hk : ∀ v H', K v H' → K' v H') : TYield P l args H K' := fun us w hv hh => by
  obtain ⟨fn, tmps, assign, body, h1, h2⟩ := h us w hv hh
  refine ⟨fn, tmps, assign, body, h1, fun n => (h2 n).mono ?_⟩
  rintro e w' ⟨H', ev, hr, q⟩
  refine ⟨H', ev, hr, ?_⟩
  cases e with
  | returned u => obtain ⟨v, h3, h4⟩ := q; exact ⟨v, h3, hk v H' h4⟩
  | panicked ch => exact q
  | outgrown => exact q
theorem stepR_scope {P : Program} {b : Frame} {a : Act} {k : List Item} {cs : List Frame} {w : World} {c : Code} : step P (lone (b.atR a (.code (.scope c) :: k)) cs w) = .next (lone (b.atR a (.code c :: .inScope c :: k)) cs w) :=
 step_lone_go (by simp [stepG, stepG.exec, Frame.atR])
theorem stepR_inScope {P : Program} {b : Frame} {a : Act} {k : List Item} {cs : List Frame} {w : World} {c : Code} : step P (lone (b.atR a (.inScope c :: k)) cs w) = .next (lone (b.atR a k) cs w) :=
 step_lone_go (by simp [stepG, stepG.exec, Frame.atR])
theorem wpIn_scope {F : Fence} {n : Nat} {P : Program} {Q : Exit → Act → World → Prop} {a : Act} {w : World} {c : Code} (h : c.wpIn F n P (Exit.noGoto Q) a w) : (Code.scope c).wpIn F n P Q a w := by
 intro b k cs hro hb hr
 have h0 : (lone (b.atR a (.code (.scope c) :: k)) cs w).fenced P F := fenced_calm hb hr rfl
 obtain ⟨e, a₁, w₁, hq, harr⟩ := h b (.inScope c :: k) cs hro hb hr
 cases e with
 | normal => exact ⟨.normal, a₁, w₁, hq, .head h0 stepR_scope (StepsIn.trans harr (.one (fenced_calm hb hr rfl) stepR_inScope))⟩
 | exit id =>
  have hx : exitTo id (.inScope c :: k) = exitTo id k := by simp [exitTo]
  exact ⟨_, a₁, w₁, hq, fun k' hk => .head h0 stepR_scope (harr.1 k' (by rw [hx]; exact hk)),
   fun hr' hk => let ⟨k₁, h1, h2⟩ := harr.2 hr' (by rw [hx]; exact hk); ⟨k₁, h1, .head h0 stepR_scope h2⟩⟩
 | goto l => exact hq.elim
 | ret => exact ⟨_, a₁, w₁, hq, .of_steps (.one h0 stepR_scope) harr⟩
 | panic ch => exact ⟨_, a₁, w₁, hq, .of_steps (.one h0 stepR_scope) harr⟩
 | outgrown => exact ⟨_, a₁, w₁, hq, .of_steps (.one h0 stepR_scope) harr⟩
def noGotoQ (Q : QC) : QC
 | .goto _, _, _ => False
 | e, env, H => Q e env H
theorem WpC.scope {P : Program} {N : Nat} {env : Env} {H : Heap} {Q : QC} {c : Code} (h : WpC P N c env H (noGotoQ Q)) : WpC P N (.scope c) env H Q := fun fr n a w r =>
 wpIn_scope (wpIn_mono (h fr n a w r) fun e a' w' ⟨env', H', ev, r', q⟩ => by
  cases e with
  | goto l => exact q.elim
  | normal => exact ⟨env', H', ev, r', q⟩
  | exit id => exact ⟨env', H', ev, r', q⟩
  | ret => exact ⟨env', H', ev, r', q⟩
  | panic ch => exact ⟨env', H', ev, r', q⟩
  | outgrown => exact ⟨env', H', ev, r', q⟩)
theorem WpC.label {P : Program} {N : Nat} {env : Env} {H : Heap} {Q : QC} {l : Nat} (h : Q .normal env H) : WpC P N (.label l) env H Q := fun fr n a w r =>
 wpIn_label ⟨env, H, Evol.refl _ _, r, h⟩
def Heap.ro (H : Heap) : Heap := fun g => match H g with
 | some (.ro vs) => some (.ro vs)
 | _ => none
theorem Heap.ro_le (H : Heap) : H.ro.le H := fun g o h => by
 unfold Heap.ro at h
 split at h
 ·rename_i vs hv; rw [hv]; exact h
 ·cases h
theorem Heap.ro_dom (H : Heap) (g : Nat) : ¬ H.ro.dom g := fun ⟨o, h, h1⟩ => by
  unfold Heap.ro at h
  split at h
  · injection h with h; subst h; cases h1
  · cases h
theorem Heap.ro_get {H : Heap} {g : Nat} {vs : List Value} (h : H g = some (.ro vs)) : H.ro g = some (.ro vs) := by unfold Heap.ro; rw [h]
theorem Heap.ro_set {H : Heap} {g : Nat} {o : AObj} (ho : o.ownd = true) (hg : H g = none) : (H.set g o).ro = H.ro := by
 funext k
 unfold Heap.ro
 by_cases e : k = g
 ·subst e
  rw [uO, hg]
  cases o <;> first | rfl | cases ho
 ·rw [uS _ _ e]
theorem GlobI.ro {g : Nat} {H : Heap} (h : GlobI g H) : GlobI g H.ro := by obtain ⟨m, hm⟩ := h; exact ⟨m, Heap.ro_get hm⟩
end Go.Vc
set_option linter.unusedVariables false
set_option linter.unusedSimpArgs false
namespace Go.Vc
open Go
def Wk (H H' : Heap) : Prop := ∀ w, Evol H w H' w ∧ (HeapR w H → HeapR w H')
theorem WpO.weak {P : Program} {o : Oper} {env : Env} {H : Heap} {K : AV → Heap → Prop} {E : List PanicEntry → Heap → Prop} (h : WpO P o env H (fun v H' => ∃ H'', Wk H' H'' ∧ K v H'') E) : WpO P o env H K E :=
 fun r n a w hr K' Q' hK hE => h r n a w hr K' Q' (fun v v' H' w' ev hh hv ⟨H'', hw, hk⟩ => hK v v' H'' w' (ev.trans (hw w').1) ((hw w').2 hh) (hv.evol (hw w').1) hk) hE
theorem Wk.cell {H1 : Heap} {g t : Nat} {cs cs' : List AV} (hs : Subs cs cs') : Wk (H1.set g (.cells t cs)) (H1.set g (.cells t cs')) := by
 have hd : (H1.set g (.cells t cs')).dom = (H1.set g (.cells t cs)).dom := by
  funext k
  apply propext
  unfold Heap.dom
  by_cases e : k = g
  ·subst e; simp only [uO]
   constructor
   ·rintro ⟨o, ho, h⟩; injection ho with ho; subst ho; exact ⟨_, rfl, rfl⟩
   ·rintro ⟨o, ho, h⟩; injection ho with ho; subst ho; exact ⟨_, rfl, rfl⟩
  ·simp only [uS _ _ e]
 intro w
 refine ⟨⟨rfl, rfl, rfl, Nat.le_refl _, fun _ _ _ => rfl, fun k hk => .inl (by rw [hd] at hk; exact hk)⟩, fun hh k o hk => ?_⟩
 rw [hd]
 by_cases e : k = g
 ·subst e
  rw [uO] at hk; injection hk with hk; subst hk
  obtain ⟨us, h1, h2⟩ := hh k _ (uO _ _ _)
  exact ⟨us, h1, hs.vrs h2⟩
 ·rw [uS _ _ e] at hk
  exact hh k o (by rw [uS _ _ e]; exact hk)
section
variable {P : Program} {o : Oper} {env : Env} {H H0 : Heap} {K : AV → Heap → Prop} {E : List PanicEntry → Heap → Prop} {rs : List Res}
theorem Holds.weak {i g t : Nat} {cs cs' : List AV} (h : Holds H0 rs H) (hi : rs[i]? = some (.cell g t cs)) (hs : Subs cs cs') : ∃ H', Wk H H' ∧ Holds H0 (rs.set i (.cell g t cs')) H' := by
 obtain ⟨H1, ⟨k1, rfl⟩, k2, k3, k4⟩ := h.at_ hi
 exact ⟨_, Wk.cell hs, k4 _ _ ⟨k1, rfl⟩⟩
theorem vK {t : TypeId} {z z' : List AV} (ho : o.op = .alloc t) (hz : zeroA P t = some z) (hs : Subs z z') (hh : Holds H0 rs H) (hk : ∀ g H', Holds H0 (.cell g t z' :: rs) H' → K (.lit (.pointer (some ⟨g, 0, none⟩))) H') : WpO P o env H K E :=
 WpO.weak (vC ho hz hh fun g H' h => by
  obtain ⟨H'', h1, h2⟩ := h.weak (i := 0) rfl hs
  exact ⟨H'', h1, hk g H'' h2⟩)
theorem WpO.putU {t ty : TypeId} {x y : Operand} {g off i : Nat} {cs cs1 cs' : List AV} {v : AV} (ho : o.op = .store t x y) (hx : env.ev x = .lit (.pointer (some ⟨g, off, none⟩))) (hh : Holds H0 rs H) (hi : rs[i]? = some (.cell g ty cs)) (hy : forceA (env.ev y) some = some v)
  (h1 : (cellsA v).all AV.one = true) (hs : P.cellsOf t = (cellsA v).length) (hz : Nat.ble 1 (cellsA v).length = true) (hfit : Nat.ble (off + (cellsA v).length) cs.length = true) (hc : forceL (spliceA cs off (cellsA v)) some = some cs1) (hw : Subs cs1 cs') (hk : ∀ H', Holds H0 (rs.set i (.cell g ty cs')) H' → K (.lit undef) H') : WpO P o env H K E :=
 WpO.weak (uQ ho hx hh hi hy h1 hs hz hfit hc fun H' h => by
  have hlt : i < rs.length := (List.getElem?_eq_some_iff.1 hi).1
  obtain ⟨H'', k1, k2⟩ := h.weak (i := i) (g := g) (t := ty) (cs := cs1) (by rw [List.getElem?_set]; simp [hlt]) hw
  rw [List.set_set] at k2
  exact ⟨H'', k1, hk H'' k2⟩)
end
end Go.Vc
set_option linter.unusedVariables false
set_option linter.unusedSimpArgs false
namespace Go.Vc
open Go
section
variable {P : Program} {o : Oper} {env : Env} {H : Heap}
end
section
variable {P : Program} {o : Oper} {env : Env} {H H0 : Heap} {K : AV → Heap → Prop} {E : List PanicEntry → Heap → Prop} {rs : List Res}
theorem WpO.litT {α : Type} (cT : α → List AV) (l : List α) {t e : TypeId} {n size : Nat} {parts : Array (Nat × Operand)} (ho : o.op = .buildSlice t n parts) (he : elemT P t = some e) (h : Go.Vc.litSlice P t n (parts.toList.map fun p => (p.1, env.ev p.2)) = some (size, l.map cT)) (hl : n = (l.map cT).length) (hh : Holds H0 rs H)
  (hk : ∀ g H', Holds H0 (.own e size (some (g, n)) (l.map cT) :: rs) H' → K (.own (l.map cT).length (some (g, n))) H') : WpO P o env H K E := by
 refine WpO.litSlice ho he h fun g hg => ?_
 have := hk g _ (hh.newRow hg)
 rw [← hl] at this
 exact this
theorem Own.row_inv {t : TypeId} {size n g c : Nat} {es : List (List AV)} {p : Option (Nat × Nat)} (h : Own H0 t size es n p H) (hp : p = some (g, c)) : H0 g = none ∧ n = es.length ∧ H = H0.set g (.row t size es c) := by
  cases h with
  | nil _ => cases hp
  | row g' c' h1 h2 => injection hp with hp; injection hp with e1 e2; subst e1; subst e2; exact ⟨h1, h2, rfl⟩
theorem WpO.pushS {α : Type} (cT : α → List AV) (l xs : List α) {x y : Operand} {t e : TypeId} {size bytes i g c : Nat} {src : AV} (ho : o.op = .call { callee := .builtin .append, args := #[x, y], argTypes := #[t, t] }) (ek : ElemOk P t e size bytes)
    (hh : Holds H0 rs H) (hi : rs[i]? = some (.own e size (some (g, c)) (l.map cT))) (hx : env.ev x = .own (l.map cT).length (some (g, c))) (hy : env.ev y = src) (hs : Src H size src (xs.map cT)) (h1 : ∀ x ∈ xs, (cT x).all AV.one = true) (hb : (l.length + xs.length) * bytes ≤ 140737488355328) (hb1 : 1 ≤ bytes)
    (hk : ∀ g' c' H', Holds H0 (rs.set i (.own e size (some (g', c')) ((l ++ xs).map cT))) H' → K (.own ((l ++ xs).map cT).length (some (g', c'))) H') : WpO P o env H K E := by
  obtain ⟨H1, k1, k2, k3, k4⟩ := hh.at_ hi
  have h63 : l.length + xs.length ≤ 140737488355328 := Nat.le_trans (Nat.le_mul_of_pos_right _ hb1) hb
  have e1 : l.map cT ++ xs.map cT = (l ++ xs).map cT := by simp
  have e2 : (l.map cT).length + (xs.map cT).length = ((l ++ xs).map cT).length := by simp
  have es1 : ∀ e ∈ xs.map cT, e.all AV.one = true := fun e he => by obtain ⟨x, hx, rfl⟩ := List.mem_map.1 he; exact h1 x hx
  have hg : H1 g = none ∧ _ ∧ H = H1.set g (.row e size (l.map cT) c) := Own.row_inv k1 rfl
  obtain ⟨hg, _, hH⟩ := hg
  subst hH
  refine WpO.append ho ek hx (uO _ _ _) (Nat.le_refl _) hy hs es1 (by simpa using h63) (by simpa using hb) fun g' c' hg' hc' => ?_
  rw [List.take_length, Heap.del_set _ hg, e1, e2]
  refine hk g' c' _ (k4 _ _ ?_)
  refine .row (n := _) g' c' ?_ (by simp)
  rcases hg' with rfl | hg'
  · exact hg
  · by_cases e : g' = g
    · subst e; exact hg
    · rwa [uS _ _ e] at hg'
theorem WpO.thaw {H1 : Heap} {t : Tmp} {u : AV} (up : Up H (env t) H1 u) (h : WpO P o (env.put (some t) u) H1 K E) : WpO P o env H K E := fun r n a w hr K' Q' hK hE =>
 h r n a w ⟨fun x hx => by
  have h0 := hr.1 x hx
  have hup := up.2 w
  have hev := Evol.drop w up.1
  cases x with
  | tmp k =>
   by_cases hk : k = t
   ·subst hk
    simp only [Env.ev, Env.put, if_true] at h0 ⊢
    exact hup _ hr.2 h0
   ·simp only [Env.ev, Env.put, hk, if_false] at h0 ⊢
    exact h0.evol hev
  | _ => exact VR.evol hev h0, hr.2.drop up.1⟩ K' Q' (fun v v' H' w' ev hh hv k => hK v v' H' w' ((Evol.drop w up.1).trans ev) hh hv k) (fun ch H' w' ev hh he => hE ch H' w' ((Evol.drop w up.1).trans ev) hh he)
theorem WpO.thawT {t ty size i : Nat} {p : Option (Nat × Nat)} {es : List (List AV)} {v : AV} (hh : Holds H0 rs H) (hi : rs[i]? = some (.own ty size p es)) (ht : env t = .own es.length p) (k : ∀ H', Holds H0 (rs.eraseIdx i) H' → Exact P o (env.put (some t) (.rows size es)) H' v ∧ K v H') : WpO P o env H K E := by
 obtain ⟨H1, k1, k2, k3, k4⟩ := hh.at_ hi
 obtain ⟨h1, h2⟩ := k H1 k3
 refine WpO.thaw (t := t) (u := .rows size es) (H1 := H1) ?_ (WpO.mono h1 (fun u H' ⟨e1, e2⟩ => by subst e1; subst e2; exact h2) (fun _ _ h => h.elim))
 rw [ht]
 exact Own.up k1
end
theorem Up.rop {H H' : Heap} {g : Nat} {t : TypeId} {cs : List AV} (h : H'.le H) (hg : H g = some (.cells t cs)) (hg' : H' g = none) : Up H (.lit (.pointer (some ⟨g, 0, none⟩))) H' (.rop cs) := by
  refine ⟨h, fun w x hh hx => ?_⟩
  have e1 := hx.lit_inv
  subst e1
  obtain ⟨us, h2, h3⟩ := (hh g _ hg).flat (cs := cs) rfl
  have h4 := h2.evol (Evol.drop w h)
  refine .rop us h4.1 (fun k u hu => by rw [addr_add, Nat.zero_add]; exact h3 k u hu) h4.2 (fun _ => ⟨(hh g _ hg).lt, ?_⟩)
  rintro ⟨o', ho', _⟩
  rw [hg'] at ho'; cases ho'
theorem WpC.ice {P : Program} {N : Nat} {c : Code} {env : Env} {H H0 : Heap} {Q : QC} {rs : List Res} {t i g ty : Nat} {cs : List AV} (h : Holds H0 rs H) (hi : rs[i]? = some (.cell g ty cs)) (ht : env t = .lit (.pointer (some ⟨g, 0, none⟩))) (k : ∀ H', Holds H0 (rs.eraseIdx i) H' → WpC P N c (env.put (some t) (.rop cs)) H' Q) : WpC P N c env H Q := by
 obtain ⟨H1, ⟨k1, k1'⟩, k2, k3, k4⟩ := h.at_ hi
 refine WpC.up (t := t) (u := .rop cs) (H' := H1) ?_ (k H1 k3)
 rw [ht]
 subst k1'
 exact Up.rop (Heap.le_set (uD _) k1 _) (uO _ _ _) k1
end Go.Vc
