/-
  Part of the proof of Strings.
-/
import Derived.Test.YtgmpeddopfnioaaGreatDoorQsVsx
import Derived.Test.YtgmpeddopfnioaaGreatDoorQsShx
import Derived.Lib.AppendStr
import Derived.Lib.UnsafeStr
import Derived.Lib.Builder
import Derived.Laws.Externs
import Derived.Below
import Derived.Scope
import Derived.AtR

set_option linter.unusedVariables false
set_option linter.unusedSimpArgs false
namespace Go.Vc
open Go
abbrev iA (n : Int) : AV := .lit (.int .i64 n)
abbrev u8A (c : UInt8) : AV := .lit (.int .u8 c.toNat)
abbrev sA (l : List UInt8) : AV := .lit (.string ⟨⟨l⟩⟩)
abbrev bA (b : Bool) : AV := .lit (.bool b)
def cI (n : Int) : List AV := [iA n]
def cU (c : UInt8) : List AV := [u8A c]
def cS (l : List UInt8) : List AV := [sA l]
def cL {α : Type} (size : Nat) (f : α → List AV) (l : List α) : List AV := [.rows size (l.map f)]
theorem one_cU (x : UInt8) : (cU x).all AV.one = true := rfl
theorem one_cS (x : List UInt8) : (cS x).all AV.one = true := rfl
theorem one_cL {α : Type} (size : Nat) (f : α → List AV) (x : List α) : (cL size f x).all AV.one = true := rfl
theorem len_map {α : Type} (f : α → List AV) (l : List α) : (AV.lit (.int .i64 ((l.map f).length : Nat))) = iA (l.length : Nat) := by rw [List.length_map]
theorem rows_drop {α : Type} (size : Nat) (f : α → List AV) (l : List α) (a : Nat) : AV.rows size ((l.map f).drop a) = .rows size ((l.drop a).map f) := by rw [List.map_drop]
theorem rows_cut {α : Type} (size : Nat) (f : α → List AV) (l : List α) (a b : Nat) : AV.rows size (((l.map f).drop a).take (b - a)) = .rows size (((l.drop a).take (b - a)).map f) := by rw [List.map_take, List.map_drop]
theorem map_ix {α : Type} {f : α → List AV} {l : List α} {n : Int} {x : α} (h : Sh.ix l n = some x) : (l.map f)[n.toNat]? = some (f x) := map_at (Sh.ix_spec h).2
section
variable {P : Program} {o : Oper} {env : Env} {H H0 : Heap} {K : AV → Heap → Prop} {E : List PanicEntry → Heap → Prop} {rs : List Res}
theorem Exact.ixr {α : Type} (f : α → List AV) {l : List α} {n : Int} {y : α} {t e0 : TypeId} {x i : Operand} {k0 : IntKind} {size : Nat} (h : Sh.ix l n = some y) (ho : o.op = .indexAddr t x i) (hx : env.ev x = .rows size (l.map f)) (hi : env.ev i = .lit (.int k0 n))
  (ht : elemT P t = some e0) (hsz : P.cellsOf e0 = size) (hz : size ≠ 0) : Exact P o env H (.rop (f y)) := by
 have h0 := (Sh.ix_spec h).1
 refine Exact.indexAddr_rows (k0 := k0) (k := n.toNat) ho hx ?_ (map_ix h) ht hsz hz
 rw [hi]
 congr 2
 show n = ((n.toNat : Nat) : Int)
 omega
theorem Exact.ixo {α : Type} (f : α → List AV) {l : List α} {n : Int} {y : α} {t e0 : TypeId} {x i : Operand} {k0 : IntKind} {size g c : Nat} (h : Sh.ix l n = some y) (ho : o.op = .indexAddr t x i) (hx : env.ev x = .own (l.map f).length (some (g, c))) (hi : env.ev i = .lit (.int k0 n))
  (ht : elemT P t = some e0) (hsz : P.cellsOf e0 = size) (hz : size ≠ 0) : Exact P o env H (.lit (.pointer (some ⟨g, n.toNat * size, none⟩))) := by
 have h0 := (Sh.ix_spec h).1
 refine Exact.indexAddr_buf (k0 := k0) (k := n.toNat) ho hx ?_ (by rw [List.length_map]; exact Sh.ix_lt h) ht hsz hz
 rw [hi]
 congr 2
 show n = ((n.toNat : Nat) : Int)
 omega
theorem Exact.ldo {α : Type} (f : α → List AV) {l : List α} {n : Int} {y : α} {t ty : TypeId} {x : Operand} {g c size off i : Nat} {v : AV} (h : Sh.ix l n = some y) (hh : Holds H0 rs H) (hi : rs[i]? = some (.own ty size (some (g, c)) (l.map f))) (ho : o.op = .load t x)
  (hx : env.ev x = .lit (.pointer (some ⟨g, n.toNat * size + off, none⟩))) (hf : off ≤ size) (hl : ldv P t ((f y).drop off) = some v) : Exact P o env H v :=
 Exact.load_row ho hx (hh.row hi) rfl hf (map_ix h) hl
theorem Exact.ixs {l : List UInt8} {n : Int} {c : UInt8} {t : TypeId} {x i : Operand} {k0 : IntKind} (h : Sh.ix l n = some c) (ho : o.op = .index t x i) (hx : env.ev x = sA l) (hi : env.ev i = .lit (.int k0 n)) (hu : P.underlying t = some .string) : Exact P o env H (u8A c) := by
 obtain ⟨h0, h1⟩ := Sh.ix_spec h
 have hlt := Sh.ix_lt h
 have : pev P o.op env = some (.lit (.int .u8 (l.getD n.toNat 0).toNat), [0 ≤ n ∧ n.toNat < l.length]) := by
  rw [ho]; simp only [pev, hu, hx, hi]
 have := pev_sound this ⟨h0, hlt⟩ H
 have hg : l.getD n.toNat 0 = c := by rw [List.getD_eq_getElem?_getD, h1]; rfl
 rwa [hg] at this
theorem Exact.ixa {α : Type} (f : α → AV) {l : List α} {n : Int} {y : α} {t e0 : TypeId} {x i : Operand} {k0 : IntKind} {len : Nat} (h : Sh.ix l n = some y) (ho : o.op = .index t x i) (hx : env.ev x = .agg (l.map f)) (hi : env.ev i = .lit (.int k0 n)) (hu : P.underlying t = some (.array len e0)) (hlen : l.length = len)
  (h1 : P.cellsOf e0 = 1) (h2 : (P.underlying e0 = some .string)) : Exact P o env H (f y) := by
 obtain ⟨h0, hk⟩ := Sh.ix_spec h
 have hlt := Sh.ix_lt h
 apply Exact.of_run (by simp [noDefer, ho])
 intro a w ⟨hr, hh⟩
 rw [ho] at hr
 have g0 := hr x (by simp [Op.operands])
 have g1 := hr i (by simp [Op.operands])
 rw [hx] at g0; rw [hi] at g1
 obtain ⟨us, e0', hv⟩ := g0.agg_inv
 have e1 := g1.lit_inv
 obtain ⟨u, hu1, hu2⟩ := hv.at_ (k := n.toNat) (x := f y) (by rw [List.getElem?_map, hk]; rfl)
 have hso := cellsOf_run (w := w) (P := P) (t := e0) h1 (by simp)
 refine ⟨u, ?_, hu2⟩
 have hbd : (0 : Int) ≤ n ∧ n < (len : Int) := ⟨h0, by omega⟩
 have hia : (isAgg e0).run P w = .ok false w := by
  unfold isAgg
  simp only [Sem.run_bind, run_underlying h2, Result.andThen_ok, Sem.run_pure]
 unfold execOp
 rw [ho]
 simp only [e0', e1, Instr.index, asIntOf, Sem.run_bind, Sem.run_pure, Result.andThen_ok, run_underlying hu]
 rw [if_pos hbd]
 simp only [Sem.run_bind, hso, Result.andThen_ok, Nat.mul_one, part, hia, Sem.run_pure, List.getElem?_toArray, hu1, Bool.false_eq_true, if_false]
end
end Go.Vc
set_option linter.unusedVariables false
set_option linter.unusedSimpArgs false
namespace Go.Vc
open Go
def dropQ (Q : QC) : QC := fun e env H => ∃ H2, Heap.le H2 H ∧ Q e env H2
section
variable {P : Program} {N : Nat} {env : Env} {H H0 : Heap} {Q : QC} {rs : List Res}
theorem WpC.closed {c : Code} (h : WpC P N c env H (dropQ Q)) : WpC P N c env H Q := fun fr n a w r =>
 wpIn_mono (h fr n a w r) fun e a' w' ⟨env', H', ev, r', H2, hle, q⟩ => ⟨env', H2, ev.trans (Evol.drop w' hle), r'.drop hle, q⟩
theorem WpC.regionD {id : Nat} {l : List Oper} (h : WpOps P N l.toArray (dropQ Q) l env H) : WpC P N (.region id l.toArray false) env H Q := WpC.closed (WpC.region h)
theorem WpC.drawDI {id : Nat} {l : List Oper} (Inv : Heap → Prop) (cs : List Cls) (ord : List Nat) (hm : P.follows .mixedOrders = true) (hok : drawOk l.toArray cs (ancOf l) ord = true) (hI : Inv H) (h : WpPi P N l.toArray Inv (dropQ Q) (clsAt cs) ord env H) : WpC P N (.region id l.toArray true) env H Q := WpC.closed (WpC.drawI cs ord hm hok hI h)
theorem WpC.drawD {id : Nat} {l : List Oper} (cs : List Cls) (ord : List Nat) (hm : P.follows .mixedOrders = true) (hok : drawOk l.toArray cs (ancOf l) ord = true) (h : WpPi P N l.toArray (fun _ => True) (dropQ Q) (clsAt cs) ord env H) : WpC P N (.region id l.toArray true) env H Q := WpC.closed (WpC.draw cs ord hm hok h)
theorem WpC.skipD (h : dropQ Q .normal env H) : WpC P N .skip env H Q := WpC.closed (WpC.skip h)
theorem WpC.exitD {id : Nat} (h : dropQ Q (.exit id) env H) : WpC P N (.exit id) env H Q := WpC.closed (WpC.exit h)
theorem WpC.blockK {id : Nat} {c : Code} {α : Type} (L : α → List (Nat × AV)) (J : α → Heap → Prop) (h1 : WpC P N c env H (blockQ id (thenQ (fun env' H' => ∃ s, knows env' (L s) ∧ J s H') Q)))
    (h2 : ∀ s env' H', J s H' → dropQ Q .normal (Env.of (L s) env') H') : WpC P N (.block id c) env H Q := by
  refine WpC.closed ((WpC.block h1).mono ?_)
  intro e env' H' q
  cases e with
  | normal => obtain ⟨s, hk, hj⟩ := q; have := h2 s env' H' hj; rwa [hk.eq] at this
  | exit id => exact ⟨_, Heap.le_refl _, q⟩
  | goto l => exact ⟨_, Heap.le_refl _, q⟩
  | ret => exact ⟨_, Heap.le_refl _, q⟩
  | panic ch => exact ⟨_, Heap.le_refl _, q⟩
  | outgrown => exact ⟨_, Heap.le_refl _, q⟩
theorem Holds.lose_ {i : Nat} {r : Res} (h : Holds H0 rs H) (hi : rs[i]? = some r) : ∃ H', Heap.le H' H ∧ Holds H0 (rs.eraseIdx i) H' := by
 obtain ⟨H1, k1, k2, k3, k4⟩ := h.at_ hi
 exact ⟨H1, k1.le, k3⟩
theorem TCall.held {f : FuncId} {args : List AV} {g t : Nat} {cs : List AV} {v0 : AV} {E : List PanicEntry → Heap → Prop} (hH : Holds H0 [.cell g t cs] H) (h : TCall P f args H (fun v H' => v = v0 ∧ Holds H0 [.cell g t cs] H') E) : TCall P f args H (fun v H' => v = v0 ∧ H' = H) E :=
 h.mono (fun v H' ⟨h1, h2⟩ => ⟨h1, by
  obtain ⟨_, rfl, _, rfl⟩ := hH
  obtain ⟨_, rfl, _, rfl⟩ := h2
  rfl⟩) (fun _ _ h => h)
end
theorem ne_of_ix {α : Type} {f : α → List AV} {l : List α} {n : Int} {x : α} (h : Sh.ix l n = some x) : l.map f ≠ [] := by
 have := Sh.ix_lt h
 intro e
 have : l = [] := by simpa using e
 subst this; simp at *
section
variable {P : Program} {o : Oper} {env : Env} {H H0 : Heap} {K : AV → Heap → Prop} {E : List PanicEntry → Heap → Prop} {rs : List Res}
theorem WpO.setT {α : Type} (f : α → List AV) {l : List α} {n : Int} {y y' : α} {t ty : TypeId} {x z : Operand} {g c size off i : Nat} {v : AV} (h : Sh.ix l n = some y) (hh : Holds H0 rs H) (hi : rs[i]? = some (.own ty size (some (g, c)) (l.map f))) (ho : o.op = .store t x z)
    (hx : env.ev x = .lit (.pointer (some ⟨g, n.toNat * size + off, none⟩))) (hy : forceA (env.ev z) some = some v) (h1 : (cellsA v).all AV.one = true) (hs : P.cellsOf t = (cellsA v).length) (hz : Nat.ble 1 (cellsA v).length = true) (hfit : Nat.ble (off + (cellsA v).length) size = true) (hc : forceL (spliceA (f y) off (cellsA v)) some = some (f y'))
    (hk : ∀ H', Holds H0 (rs.set i (.own ty size (some (g, c)) ((l.set n.toNat y').map f))) H' → K (.lit undef) H') : WpO P o env H K E := by
  obtain ⟨H1, k1, k2, k3, k4⟩ := hh.at_ hi
  rcases Own.inv k1 with ⟨h1, _⟩ | ⟨g', c', e, hg, rfl⟩
  · cases h1
  injection e with e; injection e with e1 e2; subst e1; subst e2
  refine WpO.store_row (i := n.toNat) (f := off) ho hx (Heap.set_same _ _ _) (by rw [forceA_eq] at hy; injection hy) rfl (map_ix h) h1 hs (by have := Nat.le_of_ble_eq_true hz; omega) (Nat.le_of_ble_eq_true hfit) hc ?_
  rw [Heap.set_set]
  refine hk _ (k4 _ _ ?_)
  rw [List.map_set]
  exact Own.row g c hg rfl
theorem WpO.makeT {α : Type} (f : α → List AV) {z : α} {n : Int} {b : Nat} {t e : TypeId} {x y : Operand} {k1 k2 : IntKind} (hc : 0 ≤ n ∧ n * (b : Int) ≤ 140737488355328 ∧ n ≤ 140737488355328) (ho : o.op = .makeSlice t x y) (hx : env.ev x = .lit (.int k1 n)) (hy : env.ev y = .lit (.int k2 n)) (hh : Holds H0 rs H)
  (he : elemT P t = some e) (hz : zeroA P e = some (f z)) (hb : P.bytesOf e = b) (hsz : P.cellsOf e = (f z).length) (hz0 : (f z).length ≠ 0)
  (hk : ∀ g c H', Holds H0 (.own e (f z).length (some (g, c)) ((List.replicate n.toNat z).map f) :: rs) H' → K (.own ((List.replicate n.toNat z).map f).length (some (g, c))) H') : WpO P o env H K E := by
 have hn : ((n.toNat : Nat) : Int) = n := by omega
 refine WpO.makeSlice (k1 := k1) (k2 := k2) (n := n.toNat) ho (by rw [hx]; congr 2; exact hn.symm) (by rw [hy]; congr 2; exact hn.symm) he hz hsz hz0 ?_ (by omega) fun g hg => ?_
 ·rw [hb, Nat.mul_comm]
  have h1 := hc.2.1
  rw [← hn] at h1
  have h4 : ((n.toNat * b : Nat) : Int) ≤ 140737488355328 := by rw [Int.natCast_mul]; exact h1
  generalize n.toNat * b = m at h4 ⊢
  omega
 ·have h1 : (List.replicate n.toNat z).map f = List.replicate n.toNat (f z) := by rw [List.map_replicate]
  have h2 := hk g n.toNat (H.set g (.row e (f z).length ((List.replicate n.toNat z).map f) n.toNat)) (hh.newRow hg)
  rw [h1] at h2
  rw [List.length_replicate] at h2
  exact h2
end
end Go.Vc
set_option linter.unusedSimpArgs false
namespace Go.Vc
open Go Go.Sh
def cGFile (x : GFile) : List AV := [(sA x.path), (sA x.text)]
def cGFault (x : GFault) : List AV := [(iA x.file_), (iA x.line_), (iA x.e)]
def cGTok (x : GTok) : List AV := [(iA x.kind), (sA x.text), (iA x.file_), (iA x.from_), (iA x.to), (bA x.blank)]
theorem one_cGTok (x : GTok) : (cGTok x).all AV.one = true := rfl
def cGLine (x : GLine) : List AV := [(iA x.kind), (iA x.first), (iA x.n), (AV.rows 6 (List.map cGTok x.toks))]
theorem one_cGLine (x : GLine) : (cGLine x).all AV.one = true := rfl
def cGMacro (x : GMacro) : List AV := [(sA x.name), (bA x.func), (AV.rows 1 (List.map cS x.params)), (bA x.variadic), (AV.rows 6 (List.map cGTok x.body))]
theorem one_cGMacro (x : GMacro) : (cGMacro x).all AV.one = true := rfl
def cGUnit_fault (x : GUnit_fault) : List AV := cGFault x.at_
def cGPptok_reader (x : GPptok_reader) : List AV := [(sA x.s), (iA x.at_)]
def cGChar (x : GChar) : List AV := [(u8A x.b), (iA x.at_)]
theorem one_cGChar (x : GChar) : (cGChar x).all AV.one = true := rfl
def cGLeaf (x : GLeaf) : List AV := [(iA x.line_), (iA x.end_), (AV.rows 2 [])]
theorem one_cGLeaf (x : GLeaf) : (cGLeaf x).all AV.one = true := rfl
def cGBranch (x : GBranch) : List AV := [(iA x.line_), (AV.rows 3 (List.map cGLeaf x.items))]
theorem one_cGBranch (x : GBranch) : (cGBranch x).all AV.one = true := rfl
def cGItem (x : GItem) : List AV := [(iA x.line_), (iA x.end_), (AV.rows 2 (List.map cGBranch x.branches))]
theorem one_cGItem (x : GItem) : (cGItem x).all AV.one = true := rfl
def cGMacro_reader (x : GMacro_reader) : List AV := [(AV.rows 6 (List.map cGTok x.l))]
def cGExpand_token (x : GExpand_token) : List AV := cGTok x.tok ++ [(AV.rows 1 (List.map cS x.hide))] ++ [(bA x.mark)] ++ [(bA x.op)]
theorem one_cGExpand_token (x : GExpand_token) : (cGExpand_token x).all AV.one = true := rfl
def errA : Option GFault → AV
 | none => .lit .nilIface
 | some f => .ifc 70 (.rop (cGFault f))
def ptrA : Option GFault → AV
 | none => .lit (.pointer none)
 | some f => .rop (cGFault f)
def cPtr (x : Option GFault) : List AV := [ptrA x]
def cGUnit_file (g : Nat) (x : GUnit_file) : List AV := [.lit (.pointer (some ⟨g, 0, none⟩)), iA x.number, .rows 4 (List.map cGLine x.lines), iA x.deep]
def kSM (s : List UInt8) : Value := .string ⟨⟨s⟩⟩
def kvM (l : List (List UInt8 × GMacro)) : List (Value × AV) := l.map fun p => (kSM p.1, .agg (cGMacro p.2))
end Go.Vc
set_option linter.unusedVariables false
set_option linter.unusedSimpArgs false
namespace Go.Vc
open Go
section
variable {P : Program}
theorem append_str_run {w : World} {t u ty e : TypeId} (ek : ElemOk P t e 1 1) (hu : P.underlying u = some .string) (hz0 : (P.info? e).map (·.zero) = some (some (.int .u8 0))) {v : Value} {n : Nat} {xs : List Value} (hown : w.ownsRow 0 e 1 v n xs) (s : ByteArray) (h63 : n + s.size ≤ 140737488355328) (hm : n + s.size ≤ maxLen) :
  ∃ v' w', (Builtin.append_ #[t, u] ty #[v, .string s]).run P w = .ok v' w' ∧ w'.ownsRow 0 e 1 v' (n + s.size) (xs ++ Lib.strCells s) ∧ w.grownBy w' v.ownBlock ∧ (v'.ownBlock = v.ownBlock ∨ v'.ownBlock = some w.heap.size) ∧ (v' = .slice none 0 0 ↔ v = .slice none 0 0 ∧ s.size = 0) := by
 obtain ⟨i, z, hi, hz, hsz, hby, hzs⟩ := ek.info
 have ht := underlying_of_elemT ek.elem
 have hz' : i.zero = some (.int .u8 0) := by rw [hi] at hz0; simpa using hz0
 obtain ⟨v', w', hrun, h1, h2, h3⟩ := Lib.run_append_own_string (P := P) w 0 t u ty e i ht hu hi hz' hsz hby v n xs hown s hm h63 (Nat.zero_le _)
 refine ⟨v', w', hrun, h1, h2, ?_, h3⟩
 rcases hown.2 with ⟨rfl, rfl⟩ | ⟨g, cap, cur, rfl, hbg, hg, hnc, hcm, hcs, htake⟩
 ·by_cases h0 : s.size = 0
  ·rw [h3.2 ⟨rfl, h0⟩]; exact .inl rfl
  ·have hr := run_append_nil_string (P := P) w t u ty e i z ht hu hi hz s (by omega) (by omega) (by rw [hby]; omega)
   rw [hr] at hrun
   injection hrun with e1 e2
   subst e1; exact .inr rfl
 ·by_cases hroom : n + s.size ≤ cap
  ·have hcs' : cur.size = cap := by simpa using hcs
   have hr := Lib.run_append_room_string (P := P) w t u ty e i ht hu hi hsz g n cap cur hg s hroom (by omega)
   rw [hr] at hrun
   injection hrun with e1 e2
   subst e1; exact .inl rfl
  ·have hxl : xs.length = n := by simpa using hown.1
   have holds : ∀ j u, xs[j]? = some u → w.cell? ((⟨g, 0, none⟩ : Addr).add j) = some u := hown.cells (g := g) rfl
   have hr := Lib.run_append_grow_string (P := P) w t u ty e i (.int .u8 0) ht hu hi hz' ⟨g, 0, none⟩ n cap xs (by rw [hsz]; simpa using hxl) holds s (by omega) (by omega) (by rw [hby]; exact growslice_fits (by omega) (by omega))
   rw [hr] at hrun
   injection hrun with e1 e2
   subst e1; exact .inr rfl
end
section rules
variable {P : Program} {o : Oper} {env : Env} {H H0 : Heap} {K : AV → Heap → Prop} {E : List PanicEntry → Heap → Prop}
theorem encB_flat (bs : List UInt8) : (bs.map encB).flatten = bs.map fun b => AV.lit (.int .u8 b.toNat) := by
 induction bs with
 | nil => rfl
 | cons b bs ih => simp only [List.map_cons, List.flatten_cons, ih]; rfl
theorem strCells_enc (l : List UInt8) : Lib.strCells ⟨⟨l⟩⟩ = l.map fun b => Value.int .u8 b.toNat := rfl
theorem encB_lits {w : World} {D : Nat → Prop} (l : List UInt8) : VRs w D (l.map encB).flatten (Lib.strCells ⟨⟨l⟩⟩) := by
 rw [strCells_enc]
 induction l with
 | nil => exact .nil
 | cons b l ih => exact .cons (.lit _) ih
theorem WpO.push_str {x y : Operand} {t u e : TypeId} {bs l : List UInt8} {p : Option (Nat × Nat)} (ho : o.op = .call { callee := .builtin .append, args := #[x, y], argTypes := #[t, u] }) (ek : ElemOk P t e 1 1) (hu : P.underlying u = some .string) (hz0 : (P.info? e).map (·.zero) = some (some (.int .u8 0)))
    (hx : env.ev x = .own (bs.map encB).length p) (own : Own H0 e 1 (bs.map encB) (bs.map encB).length p H) (hy : env.ev y = sA l) (hb : bs.length + l.length ≤ 140737488355328) (hinv : p ≠ none → bs ≠ [])
    (hk : ∀ p' H', Own H0 e 1 ((bs ++ l).map encB) ((bs ++ l).map encB).length p' H' → (p' ≠ none → bs ++ l ≠ []) → K (.own ((bs ++ l).map encB).length p') H') : WpO P o env H K E := by
  apply WpO.of_run (by simp [noDefer, ho])
  intro a w ⟨hr, hh⟩
  rw [ho] at hr
  have e0 := hr x (by simp [Op.operands, Call.operands])
  have e1 := hr y (by simp [Op.operands, Call.operands])
  rw [hx] at e0; rw [hy] at e1
  have e1 := e1.lit_inv
  have hln : (bs.map encB).length = bs.length := List.length_map ..
  have hexec : ∀ (v : Value) (v' : Value) (w' : World), a.eval x = v → (Builtin.append_ #[t, u] o.type #[v, .string ⟨⟨l⟩⟩]).run P w = .ok v' w' → (execOp a.eval o).run P w = .ok (.value v') w' := fun v v' w' ev hrun => by
    unfold execOp; rw [ho]
    simp only [resolve, Sem.run_bind, Sem.run_pure, Result.andThen_ok, invoke, builtin, List.map_toArray, List.map_cons, List.map_nil, ev, e1, hrun]
  have hflen : ∀ l : List UInt8, (l.map encB).flatten.length = (l.map encB).length * 1 := fun l => flatten_length _ (fun e he => by obtain ⟨b, _, rfl⟩ := List.mem_map.1 he; rfl)
  have hsz : ∀ e ∈ (bs ++ l).map encB, e.length = 1 := fun e he => by obtain ⟨b, _, rfl⟩ := List.mem_map.1 he; rfl
  have hsize : (ByteArray.mk ⟨l⟩).size = l.length := rfl
  have hlt2 : ((bs ++ l).map encB).length = bs.length + l.length := by simp
  have hfl2 : ((bs ++ l).map encB).flatten = (bs.map encB).flatten ++ (l.map encB).flatten := by rw [List.map_append, List.flatten_append]
  rcases Own.inv own with ⟨rfl, hnil, rfl⟩ | ⟨g, c, rfl, hg, rfl⟩
  · have hbs : bs = [] := by simpa using hnil
    subst hbs
    have e0 := e0.nil_inv.2
    obtain ⟨v', w', hrun, q1, q2, q3, q4⟩ := append_str_run (P := P) (ty := o.type) ek hu hz0 (World.ownsRow_nil w 0 e 1) ⟨⟨l⟩⟩ (by simpa [hsize] using hb) (by simp only [maxLen, hsize]; simp at hb; omega)
    by_cases hl : l = []
    · subst hl
      rw [q4.2 ⟨rfl, rfl⟩] at hrun
      have ev : Evol H w H w' := grown_evol (g := 0) (ob := .raw default) q2 (fun k hk => by cases hk) (fun k hk => .inl hk)
      exact ⟨.own 0 none, .slice none 0 0, H, w', hexec _ _ _ e0 hrun, ev, fun k ob hob => (hh k ob hob).mono ev.size ev.hk (q2.block k (hh k ob hob).lt (by simp [Value.ownBlock])), .own0, hk none H (.nil rfl) (fun h => (h rfl).elim)⟩
    · have hl0 : l.length ≠ 0 := fun h => hl (List.eq_nil_of_length_eq_zero h)
      simp only [Value.ownBlock, Nat.zero_add, List.nil_append, hsize] at q1 q2 q3
      rcases q1.2 with ⟨r1, r2⟩ | ⟨g, cap, cur, rfl, _, r3, r4, r5, r6, r7⟩
      · exact (hl0 r2).elim
      simp only [Value.ownBlock, Option.some.injEq, reduceCtorEq, false_or] at q3
      subst q3
      have ev : Evol H w (H.set w.heap.size (.row e 1 (([] ++ l).map encB) cap)) w' := grown_evol (g := 0) (ob := .raw default) q2 (fun k hk => by cases hk) (fun k hk => by
        rcases (dom_set (o := .row e 1 (([] ++ l).map encB) cap)).1 hk with h | h
        · exact .inr (by omega)
        · exact .inl h)
      refine ⟨_, _, _, w', hexec _ _ _ e0 hrun, ev, ?_, by
        have := VR.buf (w := w') (D := (H.set w.heap.size (.row e 1 (([] ++ l).map encB) cap)).dom) w.heap.size l.length cap
        have e3 : (([] ++ l).map encB).length = l.length := by simp
        rw [← e3] at this; simpa using this, hk _ _ (.row w.heap.size cap (hh.fresh (Nat.le_refl _)) rfl) (fun _ => by simpa using hl)⟩
      intro k ob hob
      by_cases hkk : k = w.heap.size
      · subst hkk
        rw [Heap.set_same] at hob; injection hob with hob; subst hob
        refine ⟨cur, r3, r6, by simpa using r4, r5, hsz, ?_⟩
        have : cur.toList.take ((([] ++ l).map encB).length * 1) = Lib.strCells ⟨⟨l⟩⟩ := by rw [← r7]; simp
        rw [this]
        exact encB_lits l
      · rw [Heap.set_ne _ _ hkk] at hob
        exact (hh k ob hob).mono ev.size ev.hk (q2.block k (hh k ob hob).lt (by simp))
  · have e0 := e0.buf_inv
    obtain ⟨cur0, b1, b2, b3, b4, b5, b6⟩ := hh g _ (Heap.set_same _ _ _)
    rw [hln] at b3 b6 e0
    have hown : w.ownsRow 0 e 1 (.slice (some ⟨g, 0, none⟩) bs.length c) bs.length (cur0.toList.take (bs.length * 1)) :=
      ⟨by have hh1 : cur0.toList.length = cur0.size := Array.length_toList; rw [List.length_take, hh1, b2]; omega, .inr ⟨g, c, cur0, rfl, Nat.zero_le _, b1, by omega, b4, b2, rfl⟩⟩
    obtain ⟨v', w', hrun, q1, q2, q3, q4⟩ := append_str_run (P := P) (ty := o.type) ek hu hz0 hown ⟨⟨l⟩⟩ (by simpa [hsize] using hb) (by simp only [maxLen, hsize]; omega)
    simp only [Value.ownBlock, hsize] at q1 q2 q3
    rcases q1.2 with ⟨r1, r2⟩ | ⟨g', cap', cur, rfl, _, r3, r4, r5, r6, r7⟩
    · subst r1
      simp only [Value.ownBlock, reduceCtorEq, or_self] at q3
    simp only [Value.ownBlock, Option.some.injEq] at q3
    have hg' : H0 g' = none := by
      rcases q3 with rfl | h
      · exact hg
      · exact Heap.le_none (Heap.set_drop hg _) (h ▸ hh.fresh (Nat.le_refl _))
    have ev : Evol (H0.set g (.row e 1 (bs.map encB) c)) w (H0.set g' (.row e 1 ((bs ++ l).map encB) cap')) w' := grown_evol (g := 0) (ob := .raw default) q2 (fun k hk => by injection hk with hk; subst hk; exact (dom_set).2 (.inl rfl)) (fun k hk => by
      rcases (dom_set (o := .row e 1 ((bs ++ l).map encB) cap')).1 hk with h | h
      · rcases q3 with h2 | h2
        · exact .inl ((dom_set).2 (.inl (by rw [h, h2])))
        · exact .inr (by omega)
      · exact .inl ((dom_set).2 (.inr h)))
    refine ⟨_, _, _, w', hexec _ _ _ e0 hrun, ev, ?_, by
      have := VR.buf (w := w') (D := (H0.set g' (.row e 1 ((bs ++ l).map encB) cap')).dom) g' (bs.length + l.length) cap'
      rw [← hlt2] at this; simpa using this, hk _ _ (.row g' cap' hg' rfl) (fun _ => by have := hinv (by simp); simp [this])⟩
    intro k ob hob
    by_cases hkk : k = g'
    · subst hkk
      rw [Heap.set_same] at hob; injection hob with hob; subst hob
      refine ⟨cur, r3, r6, by rw [hlt2]; exact r4, r5, hsz, ?_⟩
      rw [hlt2, r7, hfl2]
      exact (b6.append (encB_lits l)).evol ev
    · rw [Heap.set_ne _ _ hkk] at hob
      have hkg : k ≠ g := fun e => by subst e; rw [hg] at hob; cases hob
      have hob' : (H0.set g (.row e 1 (bs.map encB) c)) k = some ob := by rw [Heap.set_ne _ _ hkg]; exact hob
      exact (hh k ob hob').mono ev.size ev.hk (q2.block k (hh k ob hob').lt (fun h => hkg (by injection h)))
theorem cells_shape {w : World} {D : Nat → Prop} {g t : Nat} {cs : List AV} (h : ObjR w D g (.cells t cs)) : w.shape? g = some (t, cs.length) := by
 obtain ⟨us, h1, h2⟩ := h
 simp [World.shape?, h1, h2.1]
theorem Exact.to_unsafe {src dst t T : TypeId} {x : Operand} {g : Nat} {cs : List AV} {j : TypeInfo} (ho : o.op = .convert src dst x) (hx : env.ev x = .lit (.pointer (some ⟨g, 0, none⟩))) (hg : H g = some (.cells T cs)) (hs : P.underlying src = some (.pointer t)) (hd : P.underlying dst = some .unsafePointer)
    (hj : P.info? t = some j) (hj0 : j.size ≠ 0) (hl : cs ≠ []) : Exact P o env H (.lit (.pointer (some ⟨g, 0, none⟩))) := by
  apply Exact.of_run (by simp [noDefer, ho])
  intro a w ⟨hr, hh⟩
  rw [ho] at hr
  have e0 := hr x (by simp [Op.operands])
  rw [hx] at e0
  have e0 := e0.lit_inv
  refine ⟨_, ?_, .lit _⟩
  unfold execOp; rw [ho]
  have := Lib.run_to_unsafe (P := P) w ⟨g, 0, none⟩ hs hd hj hj0 (cells_shape (hh g _ hg)) (by have := List.length_pos_iff.2 hl; exact this)
  simp only [e0, Sem.run_bind, this, Result.andThen_ok, Sem.run_pure]
theorem Exact.from_unsafe {src dst u T : TypeId} {x : Operand} {g : Nat} {cs : List AV} {j : TypeInfo} (ho : o.op = .convert src dst x) (hx : env.ev x = .lit (.pointer (some ⟨g, 0, none⟩))) (hg : H g = some (.cells T cs)) (hs : P.underlying src = some .unsafePointer) (hd : P.underlying dst = some (.pointer u))
  (hj : P.info? u = some j) (hlies : liesAt P P.depth T (cs.length / P.cellsOf T) 0 u 1 = true) : Exact P o env H (.lit (.pointer (some ⟨g, 0, none⟩))) := by
 apply Exact.of_run (by simp [noDefer, ho])
 intro a w ⟨hr, hh⟩
 rw [ho] at hr
 have e0 := hr x (by simp [Op.operands])
 rw [hx] at e0
 have e0 := e0.lit_inv
 refine ⟨_, ?_, .lit _⟩
 unfold execOp; rw [ho]
 have := Lib.run_from_unsafe (P := P) w ⟨g, 0, none⟩ hs hd hj (cells_shape (hh g _ hg)) hlies
 simp only [e0, Sem.run_bind, this, Result.andThen_ok, Sem.run_pure]
theorem Exact.same {f : FuncId} {fn : Func} {x : Operand} {ts : Array TypeId} {v : AV} (ho : o.op = .call { callee := .value (.func f), args := #[x], argTypes := ts }) (hf : P.funcs[f]? = some fn) (hname : (fn.name == "runtime.NumGoroutine") = false) (hb : fn.body.isNone = true) (hn : Extern.findNext fn = none)
  (he : Extern.find fn = some Extern.AbiNoEscape.same) (hx : env.ev x = v) : Exact P o env H v := by
 apply Exact.of_run (by simp [noDefer, ho])
 intro a w ⟨hr, hh⟩
 rw [ho] at hr
 have e0 := hr x (by simp [Op.operands, Call.operands])
 rw [hx] at e0
 refine ⟨_, ?_, e0⟩
 rw [Conc.execOp_call_func ho, run_callFunc_extern hf hname hb hn he, show (#[x] : Array Operand).map a.eval = #[a.eval x] by simp, Lib.run_noEscape]
 rfl
theorem Exact.neq_ptr {t te ty : TypeId} {x y : Operand} {A : Addr} {j : TypeInfo} (ho : o.op = .binOp .neq t x y ty) (hx : env.ev x = .lit (.pointer (some A))) (hy : env.ev y = .lit (.pointer (some A))) (ht : P.underlying t = some (.pointer te)) (hj : P.info? te = some j) : Exact P o env H (bA false) := by
 apply Exact.of_run (by simp [noDefer, ho])
 intro a w ⟨hr, hh⟩
 rw [ho] at hr
 have e0 := hr x (by simp [Op.operands])
 have e1 := hr y (by simp [Op.operands])
 rw [hx] at e0; rw [hy] at e1
 have e0 := e0.lit_inv
 have e1 := e1.lit_inv
 refine ⟨_, ?_, .lit _⟩
 unfold execOp; rw [ho]
 have hg : (eqGuard .neq t x y (.pointer (some A)) (.pointer (some A))).run P w = .ok () w := eqGuard_noop (by simp) (by simp)
 have := Lib.run_neq_ptr_same (P := P) w A ht hj
 simp only [e0, e1, Sem.run_bind, hg, this, Result.andThen_ok, Sem.run_pure]
theorem Exact.sliceData {x : Operand} {ts : Array TypeId} {bs : List UInt8} {p : Option (Nat × Nat)} {e : TypeId} (ho : o.op = .call { callee := .builtin .unsafeSliceData, args := #[x], argTypes := ts }) (hx : env.ev x = .own (bs.map encB).length p) (own : Own H0 e 1 (bs.map encB) (bs.map encB).length p H) (hne : p ≠ none → bs ≠ []) :
  Exact P o env H (.lit (.pointer (p.map fun q => ⟨q.1, 0, none⟩))) := by
 apply Exact.of_run (by simp [noDefer, ho])
 intro a w ⟨hr, hh⟩
 rw [ho] at hr
 have e0 := hr x (by simp [Op.operands, Call.operands])
 rw [hx] at e0
 rcases Own.inv own with ⟨rfl, hnil, rfl⟩ | ⟨g, c, rfl, hg, rfl⟩
 ·have e0 := e0.nil_inv.2
  refine ⟨_, ?_, .lit _⟩
  unfold execOp; rw [ho]
  simp only [resolve, Sem.run_bind, Sem.run_pure, Result.andThen_ok, invoke, builtin, List.map_toArray, List.map_cons, List.map_nil, e0, Lib.run_unsafeSliceData_nil, Option.map_none]
 ·have e0 := e0.buf_inv
  obtain ⟨cur0, b1, b2, b3, b4, b5, b6⟩ := hh g _ (Heap.set_same _ _ _)
  have hb := hne (by simp)
  have hc : c ≠ 0 := by
   have : 0 < bs.length := List.length_pos_iff.2 hb
   simp only [List.length_map] at b3; omega
  refine ⟨_, ?_, .lit _⟩
  unfold execOp; rw [ho]
  simp only [resolve, Sem.run_bind, Sem.run_pure, Result.andThen_ok, invoke, builtin, List.map_toArray, List.map_cons, List.map_nil, e0, Lib.run_unsafeSliceData_row _ _ _ _ _ _ hc, Option.map_some]
theorem freeze_heap (w : World) (g n k : Nat) (h : k ≠ g) : (w.freeze ⟨g, 0, none⟩ n).heap[k]? = w.heap[k]? := by
 unfold World.freeze
 split
 ·rfl
 ·simp only [Array.getElem?_modify]
  rw [if_neg (fun e => h e.symm)]
theorem WpO.unsafeString {x y : Operand} {pt it e : TypeId} {bs : List UInt8} {p : Option (Nat × Nat)} (ho : o.op = .call { callee := .builtin .unsafeString, args := #[x, y], argTypes := #[pt, it] }) (hx : env.ev x = .lit (.pointer (p.map fun q => ⟨q.1, 0, none⟩))) (hy : env.ev y = iA bs.length) (own : Own H0 e 1 (bs.map encB) (bs.map encB).length p H)
    (hp : P.underlying pt = some (.pointer e)) (hc : P.cellsOf e = 1) (hne : p ≠ none → bs ≠ []) (hk : K (sA bs) H0) : WpO P o env H K E := by
  apply WpO.of_run (by simp [noDefer, ho])
  intro a w ⟨hr, hh⟩
  rw [ho] at hr
  have e0 := hr x (by simp [Op.operands, Call.operands])
  have e1 := hr y (by simp [Op.operands, Call.operands])
  rw [hx] at e0; rw [hy] at e1
  have f0 := e0.lit_inv
  have f1 := e1.lit_inv
  rcases Own.inv own with ⟨rfl, hnil, rfl⟩ | ⟨g, c, rfl, hg, rfl⟩
  · have hbs : bs = [] := by simpa using hnil
    subst hbs
    refine ⟨sA [], .string ⟨⟨[]⟩⟩, H, w, ?_, .refl _ _, hh, .lit _, hk⟩
    unfold execOp; rw [ho]
    have := Lib.run_unsafeString_none (P := P) w pt it o.type none
    simp only [resolve, Sem.run_bind, Sem.run_pure, Result.andThen_ok, invoke, builtin, List.map_toArray, List.map_cons, List.map_nil, f0, f1, Option.map_none, List.length_nil]
    rw [show ((0 : Nat) : Int) = 0 from rfl, this]
    rfl
  · have hb := hne (by simp)
    obtain ⟨cur0, b1, b2, b3, b4, b5, b6⟩ := hh g _ (Heap.set_same _ _ _)
    have hsh : w.shape? g = some (e, cur0.size) := by simp [World.shape?, b1]
    have hlen : bs.length ≤ cur0.size := by rw [b2, Nat.mul_one]; simpa using b3
    have hcell : ∀ (j : Nat) (x : UInt8), bs[j]? = some x → w.cell? ((⟨g, 0, none⟩ : Addr).add j) = some (.int .u8 x.toNat) := fun j x hj => by
      rw [addr_add, Nat.zero_add, cell_of_row w g j _ _ _ b1]
      have h1 : (bs.map encB).flatten[j]? = some (.lit (.int .u8 x.toNat)) := by
        rw [encB_flat, List.getElem?_map, hj]; rfl
      obtain ⟨u, hu1, hu2⟩ := b6.at_ h1
      obtain rfl := hu2.lit_inv
      rw [List.getElem?_take] at hu1
      split at hu1
      · simpa using hu1
      · cases hu1
    have hm : bs.length ≤ 9223372036854775807 := by simp only [List.length_map] at b3; simp only [maxLen] at b4; omega
    have hrun := Lib.run_unsafeString_row (P := P) w pt it o.type e hp hc g cur0.size hsh bs hb hlen hm hcell
    have hle : H0.le (H0.set g (.row e 1 (bs.map encB) c)) := Heap.set_drop hg _
    have hnd : ¬ H0.dom g := fun ⟨x, hx, _⟩ => by rw [hg] at hx; cases hx
    have hsz : w.heap.size ≤ (w.freeze ⟨g, 0, none⟩ bs.length).heap.size := by unfold World.freeze; split <;> simp
    have hos : (w.freeze ⟨g, 0, none⟩ bs.length).os = w.os ∧ (w.freeze ⟨g, 0, none⟩ bs.length).tape = w.tape ∧ (w.freeze ⟨g, 0, none⟩ bs.length).output = w.output := by unfold World.freeze; split <;> exact ⟨rfl, rfl, rfl⟩
    have ev : Evol (H0.set g (.row e 1 (bs.map encB) c)) w H0 (w.freeze ⟨g, 0, none⟩ bs.length) := ⟨hos.1, hos.2.1, hos.2.2, hsz, fun k hk hn => freeze_heap _ _ _ _ (fun e => hn ((dom_set).2 (.inl e))), fun k hk => .inl ((dom_set).2 (.inr hk))⟩
    refine ⟨sA bs, .string ⟨⟨bs⟩⟩, H0, _, ?_, ev, fun k ob hob => ?_, .lit _, hk⟩
    · unfold execOp; rw [ho]
      simp only [resolve, Sem.run_bind, Sem.run_pure, Result.andThen_ok, invoke, builtin, List.map_toArray, List.map_cons, List.map_nil, f0, f1, Option.map_some]
      rw [hrun]; rfl
    · have hkg : k ≠ g := fun e => by subst e; rw [hg] at hob; cases hob
      have hob' : (H0.set g (.row e 1 (bs.map encB) c)) k = some ob := by rw [Heap.set_ne _ _ hkg]; exact hob
      exact (hh k ob hob').mono ev.size ev.hk (freeze_heap _ _ _ _ hkg)
end rules
theorem Evol.of_below {H : Heap} {w w' : World} (h : RowKit.Below w.heap.size w w') : Evol H w H w' :=
 ⟨h.os, h.tape, h.output, h.size, fun k hk _ => h.block k hk, fun k hk => .inl hk⟩
theorem HeapR.below {H : Heap} {w w' : World} (hh : HeapR w H) (h : RowKit.Below w.heap.size w w') : HeapR w' H := fun k o hk =>
 (hh k o hk).mono h.size (Evol.of_below (H := H) h).hk (h.block k (hh k o hk).lt)
theorem tcall_lit {P : Program} {f : FuncId} {H : Heap} {us : List Value} {u : Value} (h : ∀ w, HeapR w H → Calls P f us.toArray w fun e w' => e = .returned u ∧ RowKit.Below w.heap.size w w') : TCall P f (us.map .lit) H (fun v H' => v = .lit u ∧ H' = H) noE := fun vs w hv hh => by
 obtain rfl := VRs.lits hv
 refine (h w hh).mono fun e w' ⟨he, hb⟩ => ?_
 subst he
 exact ⟨H, Evol.of_below hb, hh.below hb, .lit u, .lit u, rfl, rfl⟩
theorem tcall_lit0 {P : Program} {f : FuncId} {H : Heap} {us : List Value} {u : Value} (h : ∀ w, HeapR w H → Calls P f us.toArray w fun e w' => e = .returned u ∧ w' = w) : TCall P f (us.map .lit) H (fun v H' => v = .lit u ∧ H' = H) noE :=
 tcall_lit fun w hh => (h w hh).mono fun e w' ⟨h1, h2⟩ => ⟨h1, by subst h2; exact RowKit.Below.refl _ _⟩
theorem HeapR.cell0 {H : Heap} {w : World} {g : Nat} {v : Value} {vs : List Value} (h : HeapR w H) (hg : H g = some (.ro (v :: vs))) : w.cell? ⟨g, 0, none⟩ = some v := by
 obtain ⟨cur, t, z, h1, h2⟩ := h g _ hg
 have := h2 0 v rfl
 simp [World.cell?, h1]; exact this
end Go.Vc
set_option linter.unusedVariables false
set_option linter.unusedSimpArgs false
namespace Go.Vc
open Go
theorem own_set {α : Type} (f : α → List AV) (l : List α) (n : Nat) (y : α) (p : Option (Nat × Nat)) : AV.own (l.map f).length p = .own ((l.set n y).map f).length p := by simp
def Heap.one (g : Nat) (o : AObj) : Heap := fun k => if k = g then some o else none
theorem Heap.one_at (g : Nat) (o : AObj) : Heap.one g o g = some o := by simp [Heap.one]
theorem Heap.one_le {H : Heap} {g : Nat} {o : AObj} (h : H g = some o) : (Heap.one g o).le H := fun k x hk => by
 unfold Heap.one at hk
 split at hk
 ·rename_i e; subst e; injection hk with hk; subst hk; exact h
 ·cases hk
section
variable {P : Program} {N : Nat} {env : Env} {H H0 : Heap} {Q : QC} {rs : List Res}
theorem WpC.rangeS {σ ρ α η : Type} {g : Operand} {ps : Array Tmp} {assign body : Code} {gf : FuncId} {cap : List AV} {Hs : Heap} (f : σ → α → Option (Sh.Step σ ρ)) (l : List α) (enc : α → List AV) (R : σ → η → List Res) (o : σ ⊕ ρ) (s0 : σ) (a0 : η) (h : Sh.foldS f l s0 = some o)
    (hg : env.ev g = .clo (.func gf) [] cap) (he : enterable P gf = true) (hps : ∀ p ∈ ps.toList, Nat.blt p N = true) (hseq : TSeq P gf cap Hs (l.map enc)) (hlen : ∀ x, (enc x).length = ps.size) (hs : ∀ s a H, Holds H0 (R s a) H → Hs.le H) (hj : Holds H0 (R s0 a0) H)
    (round : ∀ x s a st H, f s x = some st → (∀ y, st = .done y → Sum.inr y = o) → Holds H0 (R s a) H → WpC P N assign (env.putL ps.toList (enc x)) H (thenQ (fun env' H'' => WpC P N body env' H'' (rangeQ (fun H' => ∃ s' a', st = .next s' ∧ Holds H0 (R s' a') H') Q env)) (fun _ _ _ => False)))
    (done : ∀ s a H, o = .inl s → Holds H0 (R s a) H → Q .normal env H) (hq : quietN N = false := by rfl) : WpC P N (.rangeFunc g ps assign body) env H Q := by
  refine WpC.range (H0 := Hs) (fun k H' => ∃ s a, Sh.foldS f (l.drop k) s = some o ∧ Holds H0 (R s a) H') hg he hps hseq (fun args ha => ?_) (fun k H' ⟨s, a, _, hh⟩ => hs s a H' hh) ⟨s0, a0, by simpa using h, hj⟩ ?_ ?_ hq
  · obtain ⟨x, _, rfl⟩ := List.mem_map.1 ha
    exact hlen x
  · rintro k args H' hk ⟨s, a, hf, hh⟩
    rw [List.getElem?_map] at hk
    obtain ⟨x, hx, rfl⟩ := Option.map_eq_some_iff.1 hk
    obtain ⟨hlt, hx'⟩ := List.getElem?_eq_some_iff.1 hx
    have hd : l.drop k = x :: l.drop (k + 1) := by rw [List.drop_eq_getElem_cons hlt, hx']
    rw [hd] at hf
    cases hfx : f s x with
    | none => simp only [Sh.foldS, hfx] at hf; cases hf
    | some st =>
      refine (round x s a st H' hfx (fun y hy => ?_) hh).mono ?_
      · subst hy
        simp only [Sh.foldS, hfx, Option.some.injEq] at hf
        exact hf
      · intro e env1 H1 q
        cases e with
        | normal =>
          refine WpC.mono (show WpC P N body env1 H1 _ from q) ?_
          intro e env2 H2 q
          cases e with
          | normal =>
            obtain ⟨s', a', rfl, h3⟩ := q
            rw [Sh.foldS_next hfx] at hf
            exact ⟨s', a', hf, h3⟩
          | exit id => exact q
          | goto l => exact q
          | ret => exact q
          | panic ch => exact q
          | outgrown => exact q
        | exit id => exact q
        | goto l => exact q
        | ret => exact q
        | panic ch => exact q
        | outgrown => exact q
  · rintro H' ⟨s, a, hf, hh⟩
    rw [List.length_map, List.drop_length] at hf
    injection hf with hf
    exact done s a H' hf.symm hh
end
section
variable {P : Program} {o : Oper} {env : Env} {H H0 : Heap} {K : AV → Heap → Prop} {E : List PanicEntry → Heap → Prop} {rs : List Res}
theorem WpO.callN {f : FuncId} {args : Array Operand} {ts : Array TypeId} {xs : List AV} {t : Nat} {cs : List AV} {V : Nat → AV} (ho : o.op = .call { callee := .value (.func f), args := args, argTypes := ts }) (he : enterable P f = true) (hx : forceL (args.toList.map env.ev) some = some xs) (hh : Holds H0 rs H)
  (h : ∀ H, TCall P f xs H (fun v H' => ∃ g, H g = none ∧ v = V g ∧ H' = H.set g (.cells t cs)) noE) (hk : ∀ g H', Holds H0 (.cell g t cs :: rs) H' → K (V g) H') : WpO P o env H K E := by
 refine WpO.call ho he hx ((h H).mono ?_ (fun _ _ h => h.elim))
 rintro _ _ ⟨g, hg, rfl, rfl⟩
 exact hk g _ (hh.new hg)
theorem WpO.callT0 {f : FuncId} {args : Array Operand} {ts : Array TypeId} {xs : List AV} {i : Nat} {r : Res} {v : AV} (ho : o.op = .call { callee := .value (.func f), args := args, argTypes := ts }) (he : enterable P f = true) (hx : forceL (args.toList.map env.ev) some = some xs) (hh : Holds H0 rs H) (hi : rs[i]? = some r)
  (h : ∀ H1, Holds H1 [r] H → TCall P f xs H (fun u H' => u = v ∧ H' = H1) noE) (hk : ∀ H', Holds H0 (rs.eraseIdx i) H' → K v H') : WpO P o env H K E := by
 obtain ⟨H1, k1, k2, k3, k4⟩ := hh.at_ hi
 refine WpO.call ho he hx ((h H1 (.one k1)).mono ?_ (fun _ _ h => h.elim))
 rintro _ H' ⟨rfl, rfl⟩
 exact hk H' k3
theorem Holds.bld_new {g t : Nat} (et : Nat) (h : Holds H0 (.cell g t [.lit (.pointer none), .own 0 none] :: rs) H) : Holds H0 (.bld g t et [] :: rs) H := by
 obtain ⟨H1, h1, h2⟩ := h
 exact ⟨H1, h1, none, .lit (.pointer none), H1, Own.nil rfl, h2, .inl rfl, fun h => (h rfl).elim⟩
end
def GlobI (g : Nat) (H : Heap) : Prop := ∃ m, H g = some (.ro [.int .i64 m])
theorem GlobI.le {g : Nat} {H H' : Heap} (h : GlobI g H) (hl : H.le H') : GlobI g H' := by obtain ⟨m, hm⟩ := h; exact ⟨m, hl _ _ hm⟩
theorem GlobI.up {g : Nat} {H H0 : Heap} {rs : List Res} (h : GlobI g H0) (hH : Holds H0 rs H) : GlobI g H := h.le hH.le
theorem ro_held {H H0 : Heap} {g t k : Nat} {cs : List AV} {vs : List Value} (hH : Holds H0 [.cell g t cs] H) (h : H k = some (.ro vs)) : H0 k = some (.ro vs) := by
  obtain ⟨_, rfl, h0, rfl⟩ := hH
  by_cases e : k = g
  · subst e; rw [Heap.set_same] at h; cases h
  · rw [Heap.set_ne _ _ e] at h; exact h
theorem GlobI.held {G : Nat} {H H0 : Heap} {g t : Nat} {cs : List AV} (h : GlobI G H) (hH : Holds H0 [.cell g t cs] H) : GlobI G H0 := by obtain ⟨m, hm⟩ := h; exact ⟨m, ro_held hH hm⟩
theorem TYield.mono {P : Program} {l : Nat} {args : List AV} {H : Heap} {K K' : AV → Heap → Prop} (h : TYield P l args H K) (hk : ∀ v H', K v H' → K' v H') : TYield P l args H K' := fun us w hv hh => by
  obtain ⟨fn, tmps, assign, body, h1, h2⟩ := h us w hv hh
  refine ⟨fn, tmps, assign, body, h1, fun n => (h2 n).mono ?_⟩
  rintro e w' ⟨H', ev, hr, q⟩
  refine ⟨H', ev, hr, ?_⟩
  cases e with
  | returned u => obtain ⟨v, h3, h4⟩ := q; exact ⟨v, h3, hk v H' h4⟩
  | panicked ch => exact q
  | outgrown => exact q
theorem stepR_scope {P : Program} {b : Frame} {a : Act} {k : List Item} {cs : List Frame} {w : World} {c : Code} : step P (lone (b.atR a (.code (.scope c) :: k)) cs w) = .next (lone (b.atR a (.code c :: .inScope c :: k)) cs w) :=
 step_lone_go (by simp [stepG, stepG.exec, Frame.atR])
theorem stepR_inScope {P : Program} {b : Frame} {a : Act} {k : List Item} {cs : List Frame} {w : World} {c : Code} : step P (lone (b.atR a (.inScope c :: k)) cs w) = .next (lone (b.atR a k) cs w) :=
 step_lone_go (by simp [stepG, stepG.exec, Frame.atR])
theorem wpIn_scope {F : Fence} {n : Nat} {P : Program} {Q : Exit → Act → World → Prop} {a : Act} {w : World} {c : Code} (h : c.wpIn F n P (Exit.noGoto Q) a w) : (Code.scope c).wpIn F n P Q a w := by
 intro b k cs hro hb hr
 have h0 : (lone (b.atR a (.code (.scope c) :: k)) cs w).fenced P F := fenced_calm hb hr rfl
 obtain ⟨e, a₁, w₁, hq, harr⟩ := h b (.inScope c :: k) cs hro hb hr
 cases e with
 | normal => exact ⟨.normal, a₁, w₁, hq, .head h0 stepR_scope (StepsIn.trans harr (.one (fenced_calm hb hr rfl) stepR_inScope))⟩
 | exit id =>
  have hx : exitTo id (.inScope c :: k) = exitTo id k := by simp [exitTo]
  exact ⟨_, a₁, w₁, hq, fun k' hk => .head h0 stepR_scope (harr.1 k' (by rw [hx]; exact hk)),
   fun hr' hk => let ⟨k₁, h1, h2⟩ := harr.2 hr' (by rw [hx]; exact hk); ⟨k₁, h1, .head h0 stepR_scope h2⟩⟩
 | goto l => exact hq.elim
 | ret => exact ⟨_, a₁, w₁, hq, .of_steps (.one h0 stepR_scope) harr⟩
 | panic ch => exact ⟨_, a₁, w₁, hq, .of_steps (.one h0 stepR_scope) harr⟩
 | outgrown => exact ⟨_, a₁, w₁, hq, .of_steps (.one h0 stepR_scope) harr⟩
def noGotoQ (Q : QC) : QC
 | .goto _, _, _ => False
 | e, env, H => Q e env H
theorem WpC.scope {P : Program} {N : Nat} {env : Env} {H : Heap} {Q : QC} {c : Code} (h : WpC P N c env H (noGotoQ Q)) : WpC P N (.scope c) env H Q := fun fr n a w r =>
 wpIn_scope (wpIn_mono (h fr n a w r) fun e a' w' ⟨env', H', ev, r', q⟩ => by
  cases e with
  | goto l => exact q.elim
  | normal => exact ⟨env', H', ev, r', q⟩
  | exit id => exact ⟨env', H', ev, r', q⟩
  | ret => exact ⟨env', H', ev, r', q⟩
  | panic ch => exact ⟨env', H', ev, r', q⟩
  | outgrown => exact ⟨env', H', ev, r', q⟩)
theorem WpC.label {P : Program} {N : Nat} {env : Env} {H : Heap} {Q : QC} {l : Nat} (h : Q .normal env H) : WpC P N (.label l) env H Q := fun fr n a w r =>
 wpIn_label ⟨env, H, Evol.refl _ _, r, h⟩
def Heap.ro (H : Heap) : Heap := fun g => match H g with
 | some (.ro vs) => some (.ro vs)
 | _ => none
theorem Heap.ro_le (H : Heap) : H.ro.le H := fun g o h => by
 unfold Heap.ro at h
 split at h
 ·rename_i vs hv; rw [hv]; exact h
 ·cases h
theorem Heap.ro_dom (H : Heap) (g : Nat) : ¬ H.ro.dom g := fun ⟨o, h, h1⟩ => by
  unfold Heap.ro at h
  split at h
  · injection h with h; subst h; cases h1
  · cases h
theorem Heap.ro_get {H : Heap} {g : Nat} {vs : List Value} (h : H g = some (.ro vs)) : H.ro g = some (.ro vs) := by unfold Heap.ro; rw [h]
theorem Heap.ro_set {H : Heap} {g : Nat} {o : AObj} (ho : o.ownd = true) (hg : H g = none) : (H.set g o).ro = H.ro := by
 funext k
 unfold Heap.ro
 by_cases e : k = g
 ·subst e
  rw [Heap.set_same, hg]
  cases o <;> first | rfl | cases ho
 ·rw [Heap.set_ne _ _ e]
theorem GlobI.ro {g : Nat} {H : Heap} (h : GlobI g H) : GlobI g H.ro := by obtain ⟨m, hm⟩ := h; exact ⟨m, Heap.ro_get hm⟩
end Go.Vc
set_option linter.unusedVariables false
set_option linter.unusedSimpArgs false
namespace Go.Vc
open Go
def Wk (H H' : Heap) : Prop := ∀ w, Evol H w H' w ∧ (HeapR w H → HeapR w H')
theorem WpO.weak {P : Program} {o : Oper} {env : Env} {H : Heap} {K : AV → Heap → Prop} {E : List PanicEntry → Heap → Prop} (h : WpO P o env H (fun v H' => ∃ H'', Wk H' H'' ∧ K v H'') E) : WpO P o env H K E :=
 fun r n a w hr K' Q' hK hE => h r n a w hr K' Q' (fun v v' H' w' ev hh hv ⟨H'', hw, hk⟩ => hK v v' H'' w' (ev.trans (hw w').1) ((hw w').2 hh) (hv.evol (hw w').1) hk) hE
theorem Wk.cell {H1 : Heap} {g t : Nat} {cs cs' : List AV} (hs : Subs cs cs') : Wk (H1.set g (.cells t cs)) (H1.set g (.cells t cs')) := by
 have hd : (H1.set g (.cells t cs')).dom = (H1.set g (.cells t cs)).dom := by
  funext k
  apply propext
  unfold Heap.dom
  by_cases e : k = g
  ·subst e; simp only [Heap.set_same]
   constructor
   ·rintro ⟨o, ho, h⟩; injection ho with ho; subst ho; exact ⟨_, rfl, rfl⟩
   ·rintro ⟨o, ho, h⟩; injection ho with ho; subst ho; exact ⟨_, rfl, rfl⟩
  ·simp only [Heap.set_ne _ _ e]
 intro w
 refine ⟨⟨rfl, rfl, rfl, Nat.le_refl _, fun _ _ _ => rfl, fun k hk => .inl (by rw [hd] at hk; exact hk)⟩, fun hh k o hk => ?_⟩
 rw [hd]
 by_cases e : k = g
 ·subst e
  rw [Heap.set_same] at hk; injection hk with hk; subst hk
  obtain ⟨us, h1, h2⟩ := hh k _ (Heap.set_same _ _ _)
  exact ⟨us, h1, hs.vrs h2⟩
 ·rw [Heap.set_ne _ _ e] at hk
  exact hh k o (by rw [Heap.set_ne _ _ e]; exact hk)
section
variable {P : Program} {o : Oper} {env : Env} {H H0 : Heap} {K : AV → Heap → Prop} {E : List PanicEntry → Heap → Prop} {rs : List Res}
theorem Holds.weak {i g t : Nat} {cs cs' : List AV} (h : Holds H0 rs H) (hi : rs[i]? = some (.cell g t cs)) (hs : Subs cs cs') : ∃ H', Wk H H' ∧ Holds H0 (rs.set i (.cell g t cs')) H' := by
 obtain ⟨H1, ⟨k1, rfl⟩, k2, k3, k4⟩ := h.at_ hi
 exact ⟨_, Wk.cell hs, k4 _ _ ⟨k1, rfl⟩⟩
theorem WpO.allocU {t : TypeId} {z z' : List AV} (ho : o.op = .alloc t) (hz : zeroA P t = some z) (hs : Subs z z') (hh : Holds H0 rs H) (hk : ∀ g H', Holds H0 (.cell g t z' :: rs) H' → K (.lit (.pointer (some ⟨g, 0, none⟩))) H') : WpO P o env H K E :=
 WpO.weak (WpO.allocT ho hz hh fun g H' h => by
  obtain ⟨H'', h1, h2⟩ := h.weak (i := 0) rfl hs
  exact ⟨H'', h1, hk g H'' h2⟩)
theorem WpO.putU {t ty : TypeId} {x y : Operand} {g off i : Nat} {cs cs1 cs' : List AV} {v : AV} (ho : o.op = .store t x y) (hx : env.ev x = .lit (.pointer (some ⟨g, off, none⟩))) (hh : Holds H0 rs H) (hi : rs[i]? = some (.cell g ty cs)) (hy : forceA (env.ev y) some = some v)
  (h1 : (cellsA v).all AV.one = true) (hs : P.cellsOf t = (cellsA v).length) (hz : Nat.ble 1 (cellsA v).length = true) (hfit : Nat.ble (off + (cellsA v).length) cs.length = true) (hc : forceL (spliceA cs off (cellsA v)) some = some cs1) (hw : Subs cs1 cs') (hk : ∀ H', Holds H0 (rs.set i (.cell g ty cs')) H' → K (.lit undef) H') : WpO P o env H K E :=
 WpO.weak (WpO.putT ho hx hh hi hy h1 hs hz hfit hc fun H' h => by
  have hlt : i < rs.length := (List.getElem?_eq_some_iff.1 hi).1
  obtain ⟨H'', k1, k2⟩ := h.weak (i := i) (g := g) (t := ty) (cs := cs1) (by rw [List.getElem?_set]; simp [hlt]) hw
  rw [List.set_set] at k2
  exact ⟨H'', k1, hk H'' k2⟩)
end
end Go.Vc
set_option linter.unusedVariables false
set_option linter.unusedSimpArgs false
namespace Go.Vc
open Go
section
variable {P : Program} {o : Oper} {env : Env} {H : Heap}
end
section
variable {P : Program} {o : Oper} {env : Env} {H H0 : Heap} {K : AV → Heap → Prop} {E : List PanicEntry → Heap → Prop} {rs : List Res}
theorem WpO.litT {α : Type} (cT : α → List AV) (l : List α) {t e : TypeId} {n size : Nat} {parts : Array (Nat × Operand)} (ho : o.op = .buildSlice t n parts) (he : elemT P t = some e) (h : Go.Vc.litSlice P t n (parts.toList.map fun p => (p.1, env.ev p.2)) = some (size, l.map cT)) (hl : n = (l.map cT).length) (hh : Holds H0 rs H)
  (hk : ∀ g H', Holds H0 (.own e size (some (g, n)) (l.map cT) :: rs) H' → K (.own (l.map cT).length (some (g, n))) H') : WpO P o env H K E := by
 refine WpO.litSlice ho he h fun g hg => ?_
 have := hk g _ (hh.newRow hg)
 rw [← hl] at this
 exact this
theorem Own.row_inv {t : TypeId} {size n g c : Nat} {es : List (List AV)} {p : Option (Nat × Nat)} (h : Own H0 t size es n p H) (hp : p = some (g, c)) : H0 g = none ∧ n = es.length ∧ H = H0.set g (.row t size es c) := by
  cases h with
  | nil _ => cases hp
  | row g' c' h1 h2 => injection hp with hp; injection hp with e1 e2; subst e1; subst e2; exact ⟨h1, h2, rfl⟩
theorem WpO.pushS {α : Type} (cT : α → List AV) (l xs : List α) {x y : Operand} {t e : TypeId} {size bytes i g c : Nat} {src : AV} (ho : o.op = .call { callee := .builtin .append, args := #[x, y], argTypes := #[t, t] }) (ek : ElemOk P t e size bytes)
    (hh : Holds H0 rs H) (hi : rs[i]? = some (.own e size (some (g, c)) (l.map cT))) (hx : env.ev x = .own (l.map cT).length (some (g, c))) (hy : env.ev y = src) (hs : Src H size src (xs.map cT)) (h1 : ∀ x ∈ xs, (cT x).all AV.one = true) (hb : (l.length + xs.length) * bytes ≤ 140737488355328) (hb1 : 1 ≤ bytes)
    (hk : ∀ g' c' H', Holds H0 (rs.set i (.own e size (some (g', c')) ((l ++ xs).map cT))) H' → K (.own ((l ++ xs).map cT).length (some (g', c'))) H') : WpO P o env H K E := by
  obtain ⟨H1, k1, k2, k3, k4⟩ := hh.at_ hi
  have h63 : l.length + xs.length ≤ 140737488355328 := Nat.le_trans (Nat.le_mul_of_pos_right _ hb1) hb
  have e1 : l.map cT ++ xs.map cT = (l ++ xs).map cT := by simp
  have e2 : (l.map cT).length + (xs.map cT).length = ((l ++ xs).map cT).length := by simp
  have es1 : ∀ e ∈ xs.map cT, e.all AV.one = true := fun e he => by obtain ⟨x, hx, rfl⟩ := List.mem_map.1 he; exact h1 x hx
  have hg : H1 g = none ∧ _ ∧ H = H1.set g (.row e size (l.map cT) c) := Own.row_inv k1 rfl
  obtain ⟨hg, _, hH⟩ := hg
  subst hH
  refine WpO.append ho ek hx (Heap.set_same _ _ _) (Nat.le_refl _) hy hs es1 (by simpa using h63) (by simpa using hb) fun g' c' hg' hc' => ?_
  rw [List.take_length, Heap.del_set _ hg, e1, e2]
  refine hk g' c' _ (k4 _ _ ?_)
  refine .row (n := _) g' c' ?_ (by simp)
  rcases hg' with rfl | hg'
  · exact hg
  · by_cases e : g' = g
    · subst e; exact hg
    · rwa [Heap.set_ne _ _ e] at hg'
theorem WpO.thaw {H1 : Heap} {t : Tmp} {u : AV} (up : Up H (env t) H1 u) (h : WpO P o (env.put (some t) u) H1 K E) : WpO P o env H K E := fun r n a w hr K' Q' hK hE =>
 h r n a w ⟨fun x hx => by
  have h0 := hr.1 x hx
  have hup := up.2 w
  have hev := Evol.drop w up.1
  cases x with
  | tmp k =>
   by_cases hk : k = t
   ·subst hk
    simp only [Env.ev, Env.put, if_true] at h0 ⊢
    exact hup _ hr.2 h0
   ·simp only [Env.ev, Env.put, hk, if_false] at h0 ⊢
    exact h0.evol hev
  | _ => exact VR.evol hev h0, hr.2.drop up.1⟩ K' Q' (fun v v' H' w' ev hh hv k => hK v v' H' w' ((Evol.drop w up.1).trans ev) hh hv k) (fun ch H' w' ev hh he => hE ch H' w' ((Evol.drop w up.1).trans ev) hh he)
theorem WpO.thawT {t ty size i : Nat} {p : Option (Nat × Nat)} {es : List (List AV)} {v : AV} (hh : Holds H0 rs H) (hi : rs[i]? = some (.own ty size p es)) (ht : env t = .own es.length p) (k : ∀ H', Holds H0 (rs.eraseIdx i) H' → Exact P o (env.put (some t) (.rows size es)) H' v ∧ K v H') : WpO P o env H K E := by
 obtain ⟨H1, k1, k2, k3, k4⟩ := hh.at_ hi
 obtain ⟨h1, h2⟩ := k H1 k3
 refine WpO.thaw (t := t) (u := .rows size es) (H1 := H1) ?_ (WpO.mono h1 (fun u H' ⟨e1, e2⟩ => by subst e1; subst e2; exact h2) (fun _ _ h => h.elim))
 rw [ht]
 exact Own.up k1
end
theorem Up.rop {H H' : Heap} {g : Nat} {t : TypeId} {cs : List AV} (h : H'.le H) (hg : H g = some (.cells t cs)) (hg' : H' g = none) : Up H (.lit (.pointer (some ⟨g, 0, none⟩))) H' (.rop cs) := by
  refine ⟨h, fun w x hh hx => ?_⟩
  have e1 := hx.lit_inv
  subst e1
  obtain ⟨us, h2, h3⟩ := (hh g _ hg).flat (cs := cs) rfl
  have h4 := h2.evol (Evol.drop w h)
  refine .rop us h4.1 (fun k u hu => by rw [addr_add, Nat.zero_add]; exact h3 k u hu) h4.2 (fun _ => ⟨(hh g _ hg).lt, ?_⟩)
  rintro ⟨o', ho', _⟩
  rw [hg'] at ho'; cases ho'
theorem WpC.ice {P : Program} {N : Nat} {c : Code} {env : Env} {H H0 : Heap} {Q : QC} {rs : List Res} {t i g ty : Nat} {cs : List AV} (h : Holds H0 rs H) (hi : rs[i]? = some (.cell g ty cs)) (ht : env t = .lit (.pointer (some ⟨g, 0, none⟩))) (k : ∀ H', Holds H0 (rs.eraseIdx i) H' → WpC P N c (env.put (some t) (.rop cs)) H' Q) : WpC P N c env H Q := by
 obtain ⟨H1, ⟨k1, k1'⟩, k2, k3, k4⟩ := h.at_ hi
 refine WpC.up (t := t) (u := .rop cs) (H' := H1) ?_ (k H1 k3)
 rw [ht]
 subst k1'
 exact Up.rop (Heap.le_set (Heap.le_refl _) k1 _) (Heap.set_same _ _ _) k1
end Go.Vc
