/-
  More rules for printed walks: structures that hold slices (nil is told as an empty list), elements of arrays that are only read.
-/
import Derived.Test.YtffgaoehhmgbjaaDoorSr
set_option linter.unusedVariables false
set_option linter.unusedSimpArgs false
namespace Go.Vc
open Go
/-- a heap told anew: weaker -/
def Wk (H H' : Heap) : Prop := ∀ w, Evol H w H' w ∧ (HeapR w H → HeapR w H')
theorem WpO.weak {P : Program} {o : Oper} {env : Env} {H : Heap} {K : AV → Heap → Prop} {E : List PanicEntry → Heap → Prop} (h : WpO P o env H (fun v H' => ∃ H'', Wk H' H'' ∧ K v H'') E) : WpO P o env H K E :=
  fun r n a w hr K' Q' hK hE => h r n a w hr K' Q' (fun v v' H' w' ev hh hv ⟨H'', hw, hk⟩ => hK v v' H'' w' (ev.trans (hw w').1) ((hw w').2 hh) (hv.evol (hw w').1) hk) hE
theorem Wk.cell {H1 : Heap} {g t : Nat} {cs cs' : List AV} (hs : Subs cs cs') : Wk (H1.set g (.cells t cs)) (H1.set g (.cells t cs')) := by
  have hd : (H1.set g (.cells t cs')).dom = (H1.set g (.cells t cs)).dom := by
    funext k
    apply propext
    unfold Heap.dom
    by_cases e : k = g
    · subst e; simp only [Heap.set_same]
      constructor
      · rintro ⟨o, ho, h⟩; injection ho with ho; subst ho; exact ⟨_, rfl, rfl⟩
      · rintro ⟨o, ho, h⟩; injection ho with ho; subst ho; exact ⟨_, rfl, rfl⟩
    · simp only [Heap.set_ne _ _ e]
  intro w
  refine ⟨⟨rfl, rfl, rfl, Nat.le_refl _, fun _ _ _ => rfl, fun k hk => .inl (by rw [hd] at hk; exact hk)⟩, fun hh k o hk => ?_⟩
  rw [hd]
  by_cases e : k = g
  · subst e
    rw [Heap.set_same] at hk; injection hk with hk; subst hk
    obtain ⟨us, h1, h2⟩ := hh k _ (Heap.set_same _ _ _)
    exact ⟨us, h1, hs.vrs h2⟩
  · rw [Heap.set_ne _ _ e] at hk
    exact hh k o (by rw [Heap.set_ne _ _ e]; exact hk)
section
variable {P : Program} {o : Oper} {env : Env} {H H0 : Heap} {K : AV → Heap → Prop} {E : List PanicEntry → Heap → Prop} {rs : List Res}
theorem Holds.weak {i g t : Nat} {cs cs' : List AV} (h : Holds H0 rs H) (hi : rs[i]? = some (.cell g t cs)) (hs : Subs cs cs') : ∃ H', Wk H H' ∧ Holds H0 (rs.set i (.cell g t cs')) H' := by
  obtain ⟨H1, ⟨k1, rfl⟩, k2, k3, k4⟩ := h.at_ hi
  exact ⟨_, Wk.cell hs, k4 _ _ ⟨k1, rfl⟩⟩
/-- a structure that holds slices is made: they are empty lists -/
theorem WpO.allocU {t : TypeId} {z z' : List AV} (ho : o.op = .alloc t) (hz : zeroA P t = some z) (hs : Subs z z') (hh : Holds H0 rs H) (hk : ∀ g H', Holds H0 (.cell g t z' :: rs) H' → K (.lit (.pointer (some ⟨g, 0, none⟩))) H') : WpO P o env H K E :=
  WpO.weak (WpO.allocT ho hz hh fun g H' h => by
    obtain ⟨H'', h1, h2⟩ := h.weak (i := 0) rfl hs
    exact ⟨H'', h1, hk g H'' h2⟩)
theorem WpO.boxU {t : TypeId} {x : Operand} {v : AV} {z' : List AV} (ho : o.op = .box t x) (hx : env.ev x = v) (hs : Subs (cellsA v) z') (hh : Holds H0 rs H) (hk : ∀ g H', Holds H0 (.cell g t z' :: rs) H' → K (.lit (.pointer (some ⟨g, 0, none⟩))) H') : WpO P o env H K E :=
  WpO.weak (WpO.boxT ho hx hh fun g H' h => by
    obtain ⟨H'', h1, h2⟩ := h.weak (i := 0) rfl hs
    exact ⟨H'', h1, hk g H'' h2⟩)
theorem WpO.putU {t ty : TypeId} {x y : Operand} {g off i : Nat} {cs cs1 cs' : List AV} {v : AV} (ho : o.op = .store t x y) (hx : env.ev x = .lit (.pointer (some ⟨g, off, none⟩))) (hh : Holds H0 rs H) (hi : rs[i]? = some (.cell g ty cs)) (hy : forceA (env.ev y) some = some v)
    (h1 : (cellsA v).all AV.one = true) (hs : P.cellsOf t = (cellsA v).length) (hz : Nat.ble 1 (cellsA v).length = true) (hfit : Nat.ble (off + (cellsA v).length) cs.length = true) (hc : forceL (spliceA cs off (cellsA v)) some = some cs1) (hw : Subs cs1 cs') (hk : ∀ H', Holds H0 (rs.set i (.cell g ty cs')) H' → K (.lit undef) H') : WpO P o env H K E :=
  WpO.weak (WpO.putT ho hx hh hi hy h1 hs hz hfit hc fun H' h => by
    have hlt : i < rs.length := (List.getElem?_eq_some_iff.1 hi).1
    obtain ⟨H'', k1, k2⟩ := h.weak (i := i) (g := g) (t := ty) (cs := cs1) (by rw [List.getElem?_set]; simp [hlt]) hw
    rw [List.set_set] at k2
    exact ⟨H'', k1, hk H'' k2⟩)
/-- the address of an element of an array -/
theorem Exact.indexAddr_arr {t e0 : TypeId} {x i : Operand} {k0 : IntKind} {size len g : Nat} {n : Int} (ho : o.op = .indexAddr t x i) (hx : env.ev x = .lit (.pointer (some ⟨g, 0, none⟩))) (hi : env.ev i = .lit (.int k0 n)) (hn : 0 ≤ n ∧ n < (len : Int))
    (hu : P.underlying t = some (.array len e0)) (hsz : P.cellsOf e0 = size) (hz : size ≠ 0) : Exact P o env H (.lit (.pointer (some ⟨g, n.toNat * size, none⟩))) := by
  apply Exact.of_run (by simp [noDefer, ho])
  intro a w ⟨hr, hh⟩
  rw [ho] at hr
  have h0 := hr x (by simp [Op.operands])
  have h1 := hr i (by simp [Op.operands])
  rw [hx] at h0; rw [hi] at h1
  have e1 := h0.lit_inv
  have e2 := h1.lit_inv
  have hso := cellsOf_run (w := w) (P := P) (t := e0) hsz hz
  refine ⟨.pointer (some ((⟨g, 0, none⟩ : Addr).add (n.toNat * size))), ?_, ?_⟩
  · unfold execOp
    rw [ho]
    simp only [e1, e2, Instr.indexAt, asIntOf, Sem.run_bind, Sem.run_pure, Result.andThen_ok, run_underlying hu, Instr.sureAddr]
    simp only [Sem.run_ite, if_pos hn, Sem.run_bind, hso, Result.andThen_ok, Sem.run_pure]
  · rw [addr_add, Nat.zero_add]; exact .lit _
/-- .. of a table of strings that is only read, and what stands there -/
theorem Exact.ixg {l : List (List UInt8)} {n : Int} {y : List UInt8} {t e0 : TypeId} {x i : Operand} {k0 : IntKind} {len g : Nat} (h : Sh.ix l n = some y) (ho : o.op = .indexAddr t x i) (hx : env.ev x = .lit (.pointer (some ⟨g, 0, none⟩))) (hi : env.ev i = .lit (.int k0 n))
    (hu : P.underlying t = some (.array len e0)) (hl : l.length = len) (hsz : P.cellsOf e0 = 1) : Exact P o env H (.lit (.pointer (some ⟨g, n.toNat, none⟩))) := by
  have h0 := (Sh.ix_spec h).1
  have h1 := Sh.ix_lt h
  have := Exact.indexAddr_arr (P := P) (H := H) (size := 1) ho hx hi ⟨h0, by omega⟩ hu hsz (by decide)
  rwa [Nat.mul_one] at this
theorem Exact.ldg {l : List (List UInt8)} {n : Int} {y : List UInt8} {t : TypeId} {x : Operand} {g : Nat} (h : Sh.ix l n = some y) (hg : H g = some (.ro (l.map fun l => Value.string ⟨⟨l⟩⟩))) (ho : o.op = .load t x) (hx : env.ev x = .lit (.pointer (some ⟨g, n.toNat, none⟩))) (hu : P.underlying t = some .string) : Exact P o env H (sA y) := by
  refine Exact.load ho hx hg rfl ?_
  obtain ⟨h0, h1⟩ := Sh.ix_spec h
  have hlt := Sh.ix_lt h
  unfold ldv
  rw [hu]
  simp only [List.map_map]
  rw [← List.map_drop, List.drop_eq_getElem_cons hlt]
  have : l[n.toNat] = y := by rw [List.getElem?_eq_getElem hlt] at h1; injection h1
  rw [this]; rfl
end
end Go.Vc

set_option linter.unusedVariables false
set_option linter.unusedSimpArgs false
namespace Go.Vc
open Go
section
variable {P : Program} {o : Oper} {env : Env} {H : Heap}
theorem Exact.slg {l : List (List UInt8)} {t e0 : TypeId} {x : Operand} {len g : Nat} (hg : H g = some (.ro (l.map fun l => Value.string ⟨⟨l⟩⟩))) (ho : o.op = .slice t x none none none) (hx : env.ev x = .lit (.pointer (some ⟨g, 0, none⟩)))
    (hu : P.underlying t = some (.array len e0)) (hl : l.length = len) (hsz : P.cellsOf e0 = 1) : Exact P o env H (.rows 1 (l.map cS)) := by
  apply Exact.of_run (by simp [noDefer, ho])
  intro a w ⟨hr, hh⟩
  rw [ho] at hr
  have h0 := hr x (by simp [Op.operands])
  rw [hx] at h0
  have e1 := h0.lit_inv
  have hso := cellsOf_run (w := w) (P := P) (t := e0) hsz (by decide)
  have hb := sliceBounds_run (P := P) (w := w) (isS := false) (len := len) (cap := len) (lo := none) (hi := none) (mx := none) (ul := none) (uh := none) (um := none) (.inl ⟨rfl, rfl⟩) (.inl ⟨rfl, rfl⟩) (.inl ⟨rfl, rfl⟩) (Nat.le_refl _) (by simp [cutOk, loOf, hiOf]) (by simp [cutOk3, hiOf])
  obtain ⟨us, h2, h3⟩ := (hh g _ hg).flat (cs := l.map fun l => AV.lit (.string ⟨⟨l⟩⟩)) (by simp [AObj.flat])
  refine ⟨.slice (some ⟨g, 0, none⟩) l.length l.length, ?_, ?_⟩
  · unfold execOp
    rw [ho]
    have hz : (⟨g, 0, none⟩ : Addr).add (loOf none * 1) = ⟨g, 0, none⟩ := by rw [addr_add]; rfl
    simp only [e1, Instr.sliceAt, Sem.run_bind, run_underlying hu, Result.andThen_ok, Instr.sureAddr, Sem.run_pure, Option.map_none, hb, hso, hz, ite_self, hl]
    rfl
  · have hfl : (l.map cS).flatten = l.map fun l => AV.lit (.string ⟨⟨l⟩⟩) := by
      clear hg hl h2 h3
      induction l with
      | nil => rfl
      | cons b bs ih => simp only [List.map_cons, List.flatten_cons, ih]; rfl
    have hlen : (l.map cS).length = l.length := by simp
    rw [← hlen]
    refine .rows us (fun e he => by obtain ⟨q, _, rfl⟩ := List.mem_map.1 he; rfl) (by rw [hfl]; exact h2.1) (fun k u hu => by rw [addr_add, Nat.zero_add]; exact h3 k u hu) (by rw [hfl]; exact h2.2) (fun _ => ?_) (Nat.le_refl _)
    obtain ⟨cur, t', z, hc, _⟩ := hh g _ hg
    refine ⟨(Array.getElem?_eq_some_iff.1 hc).1, ?_⟩
    rintro ⟨o', ho', h4⟩
    rw [hg] at ho'
    injection ho' with ho'
    subst ho'
    cases h4
theorem Exact.conv_byte {src dst : TypeId} {x : Operand} {k : IntKind} {n : Int} (hn : 0 ≤ n ∧ n < 128) (ho : o.op = .convert src dst x) (hs : P.underlying src = some (.int k)) (hd : P.underlying dst = some .string) (hx : env.ev x = .lit (.int k n)) : Exact P o env H (sA [UInt8.ofNat n.toNat]) := by
  apply Exact.of_run (by simp [noDefer, ho])
  intro a w ⟨hr, hh⟩
  rw [ho] at hr
  have h0 := hr x (by simp [Op.operands])
  rw [hx] at h0
  have e1 := h0.lit_inv
  have he : Utf8.encode n = ⟨#[UInt8.ofNat n.toNat]⟩ := by
    unfold Utf8.encode
    have hv : Utf8.valid n = true := by unfold Utf8.valid; simp; omega
    simp only [hv, if_true]
    rw [if_pos (by omega)]
  refine ⟨_, ?_, .lit _⟩
  unfold execOp; rw [ho]
  simp [e1, convert, run_underlying hs, run_underlying hd, Conv.intToString, he]
end
section
variable {P : Program} {o : Oper} {env : Env} {H H0 : Heap} {K : AV → Heap → Prop} {E : List PanicEntry → Heap → Prop} {rs : List Res}
/-- a literal slice that will grow -/
theorem WpO.litT {α : Type} (cT : α → List AV) (l : List α) {t e : TypeId} {n size : Nat} {parts : Array (Nat × Operand)} (ho : o.op = .buildSlice t n parts) (he : elemT P t = some e) (h : Go.Vc.litSlice P t n (parts.toList.map fun p => (p.1, env.ev p.2)) = some (size, l.map cT)) (hl : n = (l.map cT).length) (hh : Holds H0 rs H)
    (hk : ∀ g H', Holds H0 (.own e size (some (g, n)) (l.map cT) :: rs) H' → K (.own (l.map cT).length (some (g, n))) H') : WpO P o env H K E := by
  refine WpO.litSlice ho he h fun g hg => ?_
  have := hk g _ (hh.newRow hg)
  rw [← hl] at this
  exact this
theorem Own.row_inv {t : TypeId} {size n g c : Nat} {es : List (List AV)} {p : Option (Nat × Nat)} (h : Own H0 t size es n p H) (hp : p = some (g, c)) : H0 g = none ∧ n = es.length ∧ H = H0.set g (.row t size es c) := by
  cases h with
  | nil _ => cases hp
  | row g' c' h1 h2 => injection hp with hp; injection hp with e1 e2; subst e1; subst e2; exact ⟨h1, h2, rfl⟩
/-- some more, or none, for a slice that grows and is not nil -/
theorem WpO.pushS {α : Type} (cT : α → List AV) (l xs : List α) {x y : Operand} {t e : TypeId} {size bytes i g c : Nat} {src : AV} (ho : o.op = .call { callee := .builtin .append, args := #[x, y], argTypes := #[t, t] }) (ek : ElemOk P t e size bytes)
    (hh : Holds H0 rs H) (hi : rs[i]? = some (.own e size (some (g, c)) (l.map cT))) (hx : env.ev x = .own (l.map cT).length (some (g, c))) (hy : env.ev y = src) (hs : Src H size src (xs.map cT)) (h1 : ∀ x ∈ xs, (cT x).all AV.one = true) (hb : (l.length + xs.length) * bytes ≤ 140737488355328) (hb1 : 1 ≤ bytes)
    (hk : ∀ g' c' H', Holds H0 (rs.set i (.own e size (some (g', c')) ((l ++ xs).map cT))) H' → K (.own ((l ++ xs).map cT).length (some (g', c'))) H') : WpO P o env H K E := by
  obtain ⟨H1, k1, k2, k3, k4⟩ := hh.at_ hi
  have h63 : l.length + xs.length ≤ 140737488355328 := Nat.le_trans (Nat.le_mul_of_pos_right _ hb1) hb
  have e1 : l.map cT ++ xs.map cT = (l ++ xs).map cT := by simp
  have e2 : (l.map cT).length + (xs.map cT).length = ((l ++ xs).map cT).length := by simp
  have es1 : ∀ e ∈ xs.map cT, e.all AV.one = true := fun e he => by obtain ⟨x, hx, rfl⟩ := List.mem_map.1 he; exact h1 x hx
  have hg : H1 g = none ∧ _ ∧ H = H1.set g (.row e size (l.map cT) c) := Own.row_inv k1 rfl
  obtain ⟨hg, _, hH⟩ := hg
  subst hH
  refine WpO.append ho ek hx (Heap.set_same _ _ _) (Nat.le_refl _) hy hs es1 (by simpa using h63) (by simpa using hb) fun g' c' hg' hc' => ?_
  rw [List.take_length, Heap.del_set _ hg, e1, e2]
  refine hk g' c' _ (k4 _ _ ?_)
  refine .row (n := _) g' c' ?_ (by simp)
  rcases hg' with rfl | hg'
  · exact hg
  · by_cases e : g' = g
    · subst e; exact hg
    · rwa [Heap.set_ne _ _ e] at hg'
/-- a slice that grows no more, at the operation that it is handed to -/
theorem WpO.thaw {H1 : Heap} {t : Tmp} {u : AV} (up : Up H (env t) H1 u) (h : WpO P o (env.put (some t) u) H1 K E) : WpO P o env H K E := fun r n a w hr K' Q' hK hE =>
  h r n a w ⟨fun x hx => by
    have h0 := hr.1 x hx
    have hup := up.2 w
    have hev := Evol.drop w up.1
    cases x with
    | tmp k =>
      by_cases hk : k = t
      · subst hk
        simp only [Env.ev, Env.put, if_true] at h0 ⊢
        exact hup _ hr.2 h0
      · simp only [Env.ev, Env.put, hk, if_false] at h0 ⊢
        exact h0.evol hev
    | _ => exact VR.evol hev h0, hr.2.drop up.1⟩ K' Q' (fun v v' H' w' ev hh hv k => hK v v' H' w' ((Evol.drop w up.1).trans ev) hh hv k) (fun ch H' w' ev hh he => hE ch H' w' ((Evol.drop w up.1).trans ev) hh he)
theorem WpO.thawT {t ty size i : Nat} {p : Option (Nat × Nat)} {es : List (List AV)} {v : AV} (hh : Holds H0 rs H) (hi : rs[i]? = some (.own ty size p es)) (ht : env t = .own es.length p) (k : ∀ H', Holds H0 (rs.eraseIdx i) H' → Exact P o (env.put (some t) (.rows size es)) H' v ∧ K v H') : WpO P o env H K E := by
  obtain ⟨H1, k1, k2, k3, k4⟩ := hh.at_ hi
  obtain ⟨h1, h2⟩ := k H1 k3
  refine WpO.thaw (t := t) (u := .rows size es) (H1 := H1) ?_ (WpO.mono h1 (fun u H' ⟨e1, e2⟩ => by subst e1; subst e2; exact h2) (fun _ _ h => h.elim))
  rw [ht]
  exact Own.up k1
end
/-- a cell that is written no more: what it holds is read -/
theorem Up.rop {H H' : Heap} {g : Nat} {t : TypeId} {cs : List AV} (h : H'.le H) (hg : H g = some (.cells t cs)) (hg' : H' g = none) : Up H (.lit (.pointer (some ⟨g, 0, none⟩))) H' (.rop cs) := by
  refine ⟨h, fun w x hh hx => ?_⟩
  have e1 := hx.lit_inv
  subst e1
  obtain ⟨us, h2, h3⟩ := (hh g _ hg).flat (cs := cs) rfl
  have h4 := h2.evol (Evol.drop w h)
  refine .rop us h4.1 (fun k u hu => by rw [addr_add, Nat.zero_add]; exact h3 k u hu) h4.2 (fun _ => ⟨(hh g _ hg).lt, ?_⟩)
  rintro ⟨o', ho', _⟩
  rw [hg'] at ho'; cases ho'
theorem WpC.ice {P : Program} {N : Nat} {c : Code} {env : Env} {H H0 : Heap} {Q : QC} {rs : List Res} {t i g ty : Nat} {cs : List AV} (h : Holds H0 rs H) (hi : rs[i]? = some (.cell g ty cs)) (ht : env t = .lit (.pointer (some ⟨g, 0, none⟩))) (k : ∀ H', Holds H0 (rs.eraseIdx i) H' → WpC P N c (env.put (some t) (.rop cs)) H' Q) : WpC P N c env H Q := by
  obtain ⟨H1, ⟨k1, k1'⟩, k2, k3, k4⟩ := h.at_ hi
  refine WpC.up (t := t) (u := .rop cs) (H' := H1) ?_ (k H1 k3)
  rw [ht]
  subst k1'
  exact Up.rop (Heap.le_set (Heap.le_refl _) k1 _) (Heap.set_same _ _ _) k1
theorem Holds.with_ {H H0 : Heap} {rs : List Res} {i g ty : Nat} {cs : List AV} (h : Holds H0 rs H) (hi : rs[i]? = some (.cell g ty cs)) : H0 g = none ∧ (H0.set g (.cells ty cs)).le H := by
  obtain ⟨H1, ⟨k1, k1'⟩, k2, k3, k4⟩ := h.at_ hi
  subst k1'
  refine ⟨?_, fun k o hk => ?_⟩
  · cases h0 : H0 g with
    | none => rfl
    | some o => rw [k3.le g o h0] at k1; cases k1
  · by_cases e : k = g
    · subst e; rw [Heap.set_same] at hk ⊢; exact hk
    · rw [Heap.set_ne _ _ e] at hk ⊢; exact k3.le k o hk
end Go.Vc
