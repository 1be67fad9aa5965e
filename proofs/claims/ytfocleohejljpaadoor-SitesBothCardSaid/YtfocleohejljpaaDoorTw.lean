/-
  More rules for printed walks: structures that hold slices (nil is told as an empty list), elements of arrays that are only read.
-/
import Derived.Test.YtfocleohejljpaaDoorSr
set_option linter.unusedVariables false
set_option linter.unusedSimpArgs false
namespace Go.Vc
open Go
/-- a heap told anew: weaker -/
def Wk (H H' : Heap) : Prop := ∀ w, Evol H w H' w ∧ (HeapR w H → HeapR w H')
theorem WpO.weak {P : Program} {o : Oper} {env : Env} {H : Heap} {K : AV → Heap → Prop} {E : List PanicEntry → Heap → Prop} (h : WpO P o env H (fun v H' => ∃ H'', Wk H' H'' ∧ K v H'') E) : WpO P o env H K E :=
  fun r n a w hr K' Q' hK hE => h r n a w hr K' Q' (fun v v' H' w' ev hh hv ⟨H'', hw, hk⟩ => hK v v' H'' w' (ev.trans (hw w').1) ((hw w').2 hh) (hv.evol (hw w').1) hk) hE
theorem Wk.cell {H1 : Heap} {g t : Nat} {cs cs' : List AV} (hs : Subs cs cs') : Wk (H1.set g (.cells t cs)) (H1.set g (.cells t cs')) := by
  have hd : (H1.set g (.cells t cs')).dom = (H1.set g (.cells t cs)).dom := by
    funext k
    apply propext
    unfold Heap.dom
    by_cases e : k = g
    · subst e; simp only [Heap.set_same]
      constructor
      · rintro ⟨o, ho, h⟩; injection ho with ho; subst ho; exact ⟨_, rfl, rfl⟩
      · rintro ⟨o, ho, h⟩; injection ho with ho; subst ho; exact ⟨_, rfl, rfl⟩
    · simp only [Heap.set_ne _ _ e]
  intro w
  refine ⟨⟨rfl, rfl, rfl, Nat.le_refl _, fun _ _ _ => rfl, fun k hk => .inl (by rw [hd] at hk; exact hk)⟩, fun hh k o hk => ?_⟩
  rw [hd]
  by_cases e : k = g
  · subst e
    rw [Heap.set_same] at hk; injection hk with hk; subst hk
    obtain ⟨us, h1, h2⟩ := hh k _ (Heap.set_same _ _ _)
    exact ⟨us, h1, hs.vrs h2⟩
  · rw [Heap.set_ne _ _ e] at hk
    exact hh k o (by rw [Heap.set_ne _ _ e]; exact hk)
section
variable {P : Program} {o : Oper} {env : Env} {H H0 : Heap} {K : AV → Heap → Prop} {E : List PanicEntry → Heap → Prop} {rs : List Res}
theorem Holds.weak {i g t : Nat} {cs cs' : List AV} (h : Holds H0 rs H) (hi : rs[i]? = some (.cell g t cs)) (hs : Subs cs cs') : ∃ H', Wk H H' ∧ Holds H0 (rs.set i (.cell g t cs')) H' := by
  obtain ⟨H1, ⟨k1, rfl⟩, k2, k3, k4⟩ := h.at_ hi
  exact ⟨_, Wk.cell hs, k4 _ _ ⟨k1, rfl⟩⟩
/-- a structure that holds slices is made: they are empty lists -/
theorem WpO.allocU {t : TypeId} {z z' : List AV} (ho : o.op = .alloc t) (hz : zeroA P t = some z) (hs : Subs z z') (hh : Holds H0 rs H) (hk : ∀ g H', Holds H0 (.cell g t z' :: rs) H' → K (.lit (.pointer (some ⟨g, 0, none⟩))) H') : WpO P o env H K E :=
  WpO.weak (WpO.allocT ho hz hh fun g H' h => by
    obtain ⟨H'', h1, h2⟩ := h.weak (i := 0) rfl hs
    exact ⟨H'', h1, hk g H'' h2⟩)
theorem WpO.boxU {t : TypeId} {x : Operand} {v : AV} {z' : List AV} (ho : o.op = .box t x) (hx : env.ev x = v) (hs : Subs (cellsA v) z') (hh : Holds H0 rs H) (hk : ∀ g H', Holds H0 (.cell g t z' :: rs) H' → K (.lit (.pointer (some ⟨g, 0, none⟩))) H') : WpO P o env H K E :=
  WpO.weak (WpO.boxT ho hx hh fun g H' h => by
    obtain ⟨H'', h1, h2⟩ := h.weak (i := 0) rfl hs
    exact ⟨H'', h1, hk g H'' h2⟩)
theorem WpO.putU {t ty : TypeId} {x y : Operand} {g off i : Nat} {cs cs1 cs' : List AV} {v : AV} (ho : o.op = .store t x y) (hx : env.ev x = .lit (.pointer (some ⟨g, off, none⟩))) (hh : Holds H0 rs H) (hi : rs[i]? = some (.cell g ty cs)) (hy : forceA (env.ev y) some = some v)
    (h1 : (cellsA v).all AV.one = true) (hs : P.cellsOf t = (cellsA v).length) (hz : Nat.ble 1 (cellsA v).length = true) (hfit : Nat.ble (off + (cellsA v).length) cs.length = true) (hc : forceL (spliceA cs off (cellsA v)) some = some cs1) (hw : Subs cs1 cs') (hk : ∀ H', Holds H0 (rs.set i (.cell g ty cs')) H' → K (.lit undef) H') : WpO P o env H K E :=
  WpO.weak (WpO.putT ho hx hh hi hy h1 hs hz hfit hc fun H' h => by
    have hlt : i < rs.length := (List.getElem?_eq_some_iff.1 hi).1
    obtain ⟨H'', k1, k2⟩ := h.weak (i := i) (g := g) (t := ty) (cs := cs1) (by rw [List.getElem?_set]; simp [hlt]) hw
    rw [List.set_set] at k2
    exact ⟨H'', k1, hk H'' k2⟩)
/-- the address of an element of an array -/
theorem Exact.indexAddr_arr {t e0 : TypeId} {x i : Operand} {k0 : IntKind} {size len g : Nat} {n : Int} (ho : o.op = .indexAddr t x i) (hx : env.ev x = .lit (.pointer (some ⟨g, 0, none⟩))) (hi : env.ev i = .lit (.int k0 n)) (hn : 0 ≤ n ∧ n < (len : Int))
    (hu : P.underlying t = some (.array len e0)) (hsz : P.cellsOf e0 = size) (hz : size ≠ 0) : Exact P o env H (.lit (.pointer (some ⟨g, n.toNat * size, none⟩))) := by
  apply Exact.of_run (by simp [noDefer, ho])
  intro a w ⟨hr, hh⟩
  rw [ho] at hr
  have h0 := hr x (by simp [Op.operands])
  have h1 := hr i (by simp [Op.operands])
  rw [hx] at h0; rw [hi] at h1
  have e1 := h0.lit_inv
  have e2 := h1.lit_inv
  have hso := cellsOf_run (w := w) (P := P) (t := e0) hsz hz
  refine ⟨.pointer (some ((⟨g, 0, none⟩ : Addr).add (n.toNat * size))), ?_, ?_⟩
  · unfold execOp
    rw [ho]
    simp only [e1, e2, Instr.indexAt, asIntOf, Sem.run_bind, Sem.run_pure, Result.andThen_ok, run_underlying hu, Instr.sureAddr]
    simp only [Sem.run_ite, if_pos hn, Sem.run_bind, hso, Result.andThen_ok, Sem.run_pure]
  · rw [addr_add, Nat.zero_add]; exact .lit _
/-- .. of a table of strings that is only read, and what stands there -/
theorem Exact.ixg {l : List (List UInt8)} {n : Int} {y : List UInt8} {t e0 : TypeId} {x i : Operand} {k0 : IntKind} {len g : Nat} (h : Sh.ix l n = some y) (ho : o.op = .indexAddr t x i) (hx : env.ev x = .lit (.pointer (some ⟨g, 0, none⟩))) (hi : env.ev i = .lit (.int k0 n))
    (hu : P.underlying t = some (.array len e0)) (hl : l.length = len) (hsz : P.cellsOf e0 = 1) : Exact P o env H (.lit (.pointer (some ⟨g, n.toNat, none⟩))) := by
  have h0 := (Sh.ix_spec h).1
  have h1 := Sh.ix_lt h
  have := Exact.indexAddr_arr (P := P) (H := H) (size := 1) ho hx hi ⟨h0, by omega⟩ hu hsz (by decide)
  rwa [Nat.mul_one] at this
theorem Exact.ldg {l : List (List UInt8)} {n : Int} {y : List UInt8} {t : TypeId} {x : Operand} {g : Nat} (h : Sh.ix l n = some y) (hg : H g = some (.ro (l.map fun l => Value.string ⟨⟨l⟩⟩))) (ho : o.op = .load t x) (hx : env.ev x = .lit (.pointer (some ⟨g, n.toNat, none⟩))) (hu : P.underlying t = some .string) : Exact P o env H (sA y) := by
  refine Exact.load ho hx hg rfl ?_
  obtain ⟨h0, h1⟩ := Sh.ix_spec h
  have hlt := Sh.ix_lt h
  unfold ldv
  rw [hu]
  simp only [List.map_map]
  rw [← List.map_drop, List.drop_eq_getElem_cons hlt]
  have : l[n.toNat] = y := by rw [List.getElem?_eq_getElem hlt] at h1; injection h1
  rw [this]; rfl
end
end Go.Vc
