/-
  Sugar over the calculus: a slice that grows from nil; a slot's value said in other words; facts on heaps.
-/
import Derived.Test.YtffgaoehhmgbjaaDoorVk
set_option linter.unusedVariables false
set_option linter.unusedSimpArgs false
namespace Go.Vc
open Go

theorem Heap.set_set (H : Heap) (g : Nat) (a b : AObj) : (H.set g a).set g b = H.set g b := by funext k; simp only [Heap.set]; split <;> rfl
theorem Heap.del_set (H : Heap) {g : Nat} (h : H g = none) (a : AObj) : (H.set g a).del g = H := by
  funext k; simp only [Heap.set, Heap.del]; split
  · rename_i e; rw [e, h]
  · rfl
theorem Heap.fresh_ne {H : Heap} {g k : Nat} {o : AObj} (hg : H g = none) (hk : H k = some o) : k ≠ g := by rintro rfl; rw [hg] at hk; cases hk
theorem Heap.set_old {H : Heap} {g k : Nat} {o x : AObj} (hk : H k = some x) (hg : H g = none) : (H.set g o) k = some x := by rw [Heap.set_ne _ _ (Heap.fresh_ne hg hk)]; exact hk
theorem Heap.set_far {H : Heap} {g k : Nat} {o : AObj} {x : Option AObj} (hk : H k = x) (hg : k ≠ g) : (H.set g o) k = x := by rw [Heap.set_ne _ _ hg]; exact hk
theorem Heap.set_drop {H : Heap} {g : Nat} (hg : H g = none) (o : AObj) : H.le (H.set g o) := Heap.le_set (Heap.le_refl _) hg o

/-- a slice that a call has made grow from nil: nothing else of what is owned is touched. In a slot it is '.own n p'. -/
inductive Own (H0 : Heap) (t : TypeId) (size : Nat) (es : List (List AV)) : Nat → Option (Nat × Nat) → Heap → Prop
  | nil (h : es = []) : Own H0 t size es 0 none H0
  | row {n : Nat} (g c : Nat) (h : H0 g = none) (hn : n = es.length) : Own H0 t size es n (some (g, c)) (H0.set g (.row t size es c))

section own
variable {H0 H : Heap} {t size n : Nat} {es es' : List (List AV)} {p : Option (Nat × Nat)}
theorem Up.nil (H : Heap) : Up H (.own 0 none) H (.rows size []) := ⟨Heap.le_refl _, fun w x hh hx => by obtain ⟨_, rfl⟩ := hx.nil_inv; exact .rows0⟩
theorem Own.up (h : Own H0 t size es n p H) : Up H (.own n p) H0 (.rows size es) := by
  cases h with
  | nil h => subst h; exact Up.nil _
  | row g c h hn => exact Up.rows (Heap.set_drop h _) (Heap.set_same _ _ _) h hn
theorem Own.le (h : Own H0 t size es n p H) : H0.le H := h.up.1
theorem Own.len (h : Own H0 t size es n p H) : n = es.length := by
  cases h with
  | nil h => subst h; rfl
  | row g c h hn => exact hn
theorem Own.src (h : Own H0 t size es n p H) : Src H size (.own n p) es := by
  cases h with
  | nil h => subst h; exact .nil
  | row g c h hn =>
    subst hn
    have := Src.buf (H := H0.set g (.row t size es c)) (size := size) (t := t) (g := g) (n := es.length) (cap := c) (Heap.set_same _ _ _) (Nat.le_refl _); rwa [List.take_length] at this
theorem Own.eq (h : Own H0 t size es n p H) (e : es = es') : Own H0 t size es' n p H := e ▸ h
theorem Own.is (h : Own H0 t size es n p H) (hn : n ≠ 0) : ∃ g c, p = some (g, c) ∧ H0 g = none ∧ H = H0.set g (.row t size es c) := by
  cases h with
  | nil h => exact (hn rfl).elim
  | row g c h hn => exact ⟨g, c, rfl, h, rfl⟩
end own

section app
variable {P : Program} {o : Oper} {env : Env} {H : Heap} {K : AV → Heap → Prop} {E : List PanicEntry → Heap → Prop}
theorem WpO.push {x y : Operand} {t e : TypeId} {size bytes n : Nat} {es0 : List (List AV)} {p : Option (Nat × Nat)} {src : AV} {es : List (List AV)} {H0 : Heap} (ho : o.op = .call { callee := .builtin .append, args := #[x, y], argTypes := #[t, t] }) (ek : ElemOk P t e size bytes)
    (hx : env.ev x = .own n p) (own : Own H0 e size es0 n p H) (hy : env.ev y = src) (hs : Src H size src es) (h1 : ∀ e ∈ es, e.all AV.one = true) (hne : es ≠ []) (h63 : es0.length + es.length ≤ 140737488355328) (hb : (es0.length + es.length) * bytes ≤ 140737488355328)
    (hk : ∀ p' H', Own H0 e size (es0 ++ es) (n + es.length) p' H' → K (.own (n + es.length) p') H') : WpO P o env H K E := by
  cases own with
  | nil h =>
    subst h
    refine WpO.append_nil ho ek hx hy hs h1 hne (by simpa using h63) (by simpa using hb) fun g c hg hc => ?_
    have := hk (some (g, c)) _ (.row (n := 0 + es.length) g c hg (by simp))
    rwa [Nat.zero_add] at this
  | row g c hg hn =>
    subst hn
    refine WpO.append ho ek hx (Heap.set_same _ _ _) (Nat.le_refl _) hy hs h1 h63 hb fun g' c' hg' hc' => ?_
    rw [List.take_length, Heap.del_set _ hg]
    exact hk _ _ (Own.row (H0 := H0) (t := e) (size := size) (es := es0 ++ es) g' c' (by
      rcases hg' with rfl | h
      · exact hg
      · exact Heap.le_none (Heap.set_drop hg _) h) (by simp))
theorem Exact.call {f : FuncId} {args : Array Operand} {ts : Array TypeId} {xs : List AV} {v : AV} (ho : o.op = .call { callee := .value (.func f), args := args, argTypes := ts }) (he : enterable P f = true) (hx : forceL (args.toList.map env.ev) some = some xs) (h : TCall P f xs H (fun u H' => u = v ∧ H' = H) noE) : Exact P o env H v := WpO.call ho he hx h
theorem Exact.call_clo {x : Operand} {f : FuncId} {first cap : List AV} {args : Array Operand} {ts : Array TypeId} {xs : List AV} {v : AV} (ho : o.op = .call { callee := .value x, args := args, argTypes := ts }) (hf : env.ev x = .clo (.func f) first cap) (he : enterable P f = true) (hx : forceL (first ++ args.toList.map env.ev ++ cap) some = some xs) (h : TCall P f xs H (fun u H' => u = v ∧ H' = H) noE) : Exact P o env H v := WpO.call_clo ho hf he hx h
/-- a store, what is asked of it by Bools -/
theorem WpO.put {t ty : TypeId} {x y : Operand} {g off : Nat} {cs cs' : List AV} {v : AV} (ho : o.op = .store t x y) (hx : env.ev x = .lit (.pointer (some ⟨g, off, none⟩))) (hg : H g = some (.cells ty cs)) (hy : forceA (env.ev y) some = some v)
    (h1 : (cellsA v).all AV.one = true) (hs : P.cellsOf t = (cellsA v).length) (hz : Nat.ble 1 (cellsA v).length = true) (hfit : Nat.ble (off + (cellsA v).length) cs.length = true) (hc : forceL (spliceA cs off (cellsA v)) some = some cs') (hk : K (.lit undef) (H.set g (.cells ty cs'))) : WpO P o env H K E :=
  WpO.store ho hx hg (by rw [forceA_eq] at hy; injection hy) h1 hs (by have := Nat.le_of_ble_eq_true hz; omega) (Nat.le_of_ble_eq_true hfit) hc hk
/-- .. over all of a block that has just come -/
theorem WpO.init {t ty : TypeId} {x y : Operand} {g : Nat} {cs cs' : List AV} {v : AV} {H0 : Heap} (ho : o.op = .store t x y) (hx : env.ev x = .lit (.pointer (some ⟨g, 0, none⟩))) (hH : H = H0.set g (.cells ty cs)) (hy : forceA (env.ev y) some = some v)
    (h1 : (cellsA v).all AV.one = true) (hs : P.cellsOf t = (cellsA v).length) (hz : Nat.ble 1 (cellsA v).length = true) (hfit : Nat.ble (0 + (cellsA v).length) cs.length = true) (hc : forceL (spliceA cs 0 (cellsA v)) some = some cs') (hk : K (.lit undef) (H0.set g (.cells ty cs'))) : WpO P o env H K E := by
  subst hH
  exact WpO.put ho hx (Heap.set_same _ _ _) hy h1 hs hz hfit hc (by rw [Heap.set_set]; exact hk)
end app

/-! ### a slot's value in other words -/
section at_
variable {P : Program} {N : Nat} {env : Env} {H H' : Heap} {Q : QC} {ops : Array Oper} {Inv : Heap → Prop}
theorem Env.put_at {d : Nat} {v : AV} (h : env d = v) : env.put (some d) v = env := by
  funext t; simp only [Env.put]; split
  · rename_i e; rw [e, h]
  · rfl
theorem WpOps.at (d : Nat) {v : AV} {l : List Oper} (h : env d = v) (k : WpOps P N ops Q l (env.put (some d) v) H) : WpOps P N ops Q l env H := by rwa [Env.put_at h] at k
theorem WpPi.at (d : Nat) {v : AV} {cls : Nat → Cls} {l : List Nat} (h : env d = v) (k : WpPi P N ops Inv Q cls l (env.put (some d) v) H) : WpPi P N ops Inv Q cls l env H := by rwa [Env.put_at h] at k
theorem WpC.at (d : Nat) {v : AV} {c : Code} (h : env d = v) (k : WpC P N c (env.put (some d) v) H Q) : WpC P N c env H Q := by rwa [Env.put_at h] at k
theorem WpOps.heap {l : List Oper} (h : H = H') (k : WpOps P N ops Q l env H') : WpOps P N ops Q l env H := h ▸ k
theorem WpPi.heap {cls : Nat → Cls} {l : List Nat} (h : H = H') (k : WpPi P N ops Inv Q cls l env H') : WpPi P N ops Inv Q cls l env H := h ▸ k
theorem WpC.heap {c : Code} (h : H = H') (k : WpC P N c env H' Q) : WpC P N c env H Q := h ▸ k
end at_

/-! ### a slice against nil -/
section nilcmp
variable {P : Program} {o : Oper} {env : Env} {H : Heap}
theorem Exact.rows_nil {t ty e : TypeId} {x y : Operand} {size : Nat} {es : List (List AV)} (ho : o.op = .binOp .eql t x y ty) (ht : elemT P t = some e) (hx : env.ev x = .rows size es) (hy : env.ev y = .own 0 none) (hne : es ≠ []) : Exact P o env H (.lit (.bool false)) := by
  apply Exact.of_run (by simp [noDefer, ho])
  intro a w ⟨hr, hh⟩
  rw [ho] at hr
  have h0 := hr x (by simp [Op.operands])
  have h1 := hr y (by simp [Op.operands])
  rw [hx] at h0; rw [hy] at h1
  cases es with
  | nil => exact (hne rfl).elim
  | cons q es =>
    have hq : eqv P t (.rows size (q :: es)) (.own 0 none) = some false := by unfold eqv; rw [underlying_of_elemT ht]
    obtain ⟨⟨e1, _⟩, e2⟩ := eqv_sound (w := w) hq h0 h1
    refine ⟨_, ?_, .lit _⟩
    unfold execOp; rw [ho]
    simp [e1, e2]
end nilcmp

/-! ### the first ones of a slice that is owned -/
section cut
variable {P : Program} {o : Oper} {env : Env} {H : Heap}
theorem Exact.slice_buf {t e ty : TypeId} {x y : Operand} {k0 : IntKind} {g n c k size : Nat} {es : List (List AV)} (ho : o.op = .slice t x none (some y) none) (hx : env.ev x = .buf g n c) (hy : env.ev y = .lit (.int k0 (.ofNat k))) (hg : H g = some (.row ty size es c)) (hn : n ≤ es.length) (hk : k ≤ n)
    (ht : elemT P t = some e) (hsz : P.cellsOf e = size) (hz : size ≠ 0) : Exact P o env H (.buf g k c) := by
  apply Exact.of_run (by simp [noDefer, ho])
  intro a w ⟨hr, hh⟩
  rw [ho] at hr
  have h0 := hr x (by simp [Op.operands])
  have h1 := hr y (by simp [Op.operands])
  rw [hx] at h0; rw [hy] at h1
  have e0 := h0.buf_inv
  have e1 := h1.lit_inv
  obtain ⟨cur, _, _, hc, _⟩ := hh g _ hg
  have hu := underlying_of_elemT ht
  have hb := sliceBounds_run (P := P) (w := w) (isS := true) (len := n) (cap := c) (lo := none) (hi := some k) (mx := none) (ul := none) (uh := some (.int k0 (Int.ofNat k))) (um := none) (.inl ⟨rfl, rfl⟩) (.inr ⟨k, k0, rfl, rfl⟩) (.inl ⟨rfl, rfl⟩) (by omega) hk trivial
  have hso := cellsOf_run (w := w) (P := P) (t := e) hsz hz
  refine ⟨.slice (some ⟨g, 0, none⟩) k c, ?_, .buf _ _ _⟩
  unfold execOp
  rw [ho]
  simp only [Option.map_none, Option.map_some, e0, e1, Instr.sliceAt, Instr.slice, Sem.run_bind, run_underlying hu, Result.andThen_ok, hb, hso, Sem.run_pure]
  simp only [Option.getD_none, loOf, hiOf, Nat.zero_mul, Nat.sub_zero]
  split
  · rfl
  · simp [Addr.add]
end cut

/-! ### a map that was written -/
section maps
variable {P : Program} {kt : TypeId}
theorem mfind_get {k : Value} : ∀ {es : List (Value × AV)} {i : Nat} {v : AV}, mfind k es = some (i, v) → ∃ k', es[i]? = some (k', v) ∧ keyEq k k' = true ∧ ∀ j, j < i → ∀ e, es[j]? = some e → keyEq k e.1 = false
  | [], i, v, h => by simp [mfind] at h
  | e :: es, i, v, h => by
    unfold mfind at h
    cases hk : keyEq k e.1 with
    | true =>
      rw [hk] at h
      simp only [if_true, Option.some.injEq, Prod.mk.injEq] at h
      obtain ⟨rfl, rfl⟩ := h
      exact ⟨e.1, rfl, hk, fun j hj => by omega⟩
    | false =>
      rw [hk] at h
      simp only [Bool.false_eq_true, if_false] at h
      cases hm : mfind k es with
      | none => rw [hm] at h; cases h
      | some q =>
        obtain ⟨i', v'⟩ := q
        rw [hm] at h
        simp only [Option.map_some, Option.some.injEq, Prod.mk.injEq] at h
        obtain ⟨rfl, rfl⟩ := h
        obtain ⟨k', h1, h2, h3⟩ := mfind_get hm
        refine ⟨k', by simpa using h1, h2, fun j hj e' he' => ?_⟩
        cases j with
        | zero => simp at he'; subst he'; exact hk
        | succ j => exact h3 j (by omega) e' (by simpa using he')
theorem mfind_none {k : Value} : ∀ {es : List (Value × AV)}, mfind k es = none ↔ ∀ e ∈ es, keyEq k e.1 = false
  | [] => by simp [mfind]
  | e :: es => by
    unfold mfind
    cases hk : keyEq k e.1 with
    | true => simp [hk]
    | false => simp [hk, mfind_none (es := es)]
theorem mget_cons {k : Value} {e : Value × AV} {es : List (Value × AV)} : mget (e :: es) k = if keyEq k e.1 then some e.2 else mget es k := by
  unfold mget
  rw [show mfind k (e :: es) = if keyEq k e.1 then some (0, e.2) else (mfind k es).map fun p => (p.1 + 1, p.2) from rfl]
  cases hk : keyEq k e.1 with
  | true => rfl
  | false => simp only [Bool.false_eq_true, if_false]; cases mfind k es <;> rfl
theorem keysOk_put {es : List (Value × AV)} {k : Value} {v : AV} (h : keysOk P kt es) (hk : isKey P kt k = true) : keysOk P kt (mput es k v) := by
  intro e he
  unfold mput at he
  split at he
  · rcases List.mem_or_eq_of_mem_set he with h' | h'
    · exact h e h'
    · rw [h']; exact hk
  · rcases List.mem_append.1 he with h' | h'
    · exact h e h'
    · simp at h'; rw [h']; exact hk
theorem keyEq_self {k : Value} (hk : isKey P kt k = true) : keyEq k k = true := (keyEq_eq hk hk).2 rfl
theorem keyEq_ne {k k' : Value} (hk : isKey P kt k = true) (hk' : isKey P kt k' = true) (hne : k ≠ k') : keyEq k k' = false := by
  cases h : keyEq k k' with
  | false => rfl
  | true => exact (hne ((keyEq_eq hk hk').1 h)).elim
theorem mput_cons {k : Value} {v : AV} {e : Value × AV} {es : List (Value × AV)} : mput (e :: es) k v = if keyEq k e.1 then (k, v) :: es else e :: mput es k v := by
  unfold mput
  rw [show mfind k (e :: es) = if keyEq k e.1 then some (0, e.2) else (mfind k es).map fun p => (p.1 + 1, p.2) from rfl]
  cases hk : keyEq k e.1 with
  | true => rfl
  | false => simp only [Bool.false_eq_true, if_false]; cases mfind k es <;> rfl
theorem mget_put_same {k : Value} {v : AV} (hk : isKey P kt k = true) : ∀ {es : List (Value × AV)}, keysOk P kt es → mget (mput es k v) k = some v
  | [], h => by
    show mget [(k, v)] k = some v
    rw [mget_cons, keyEq_self hk]; rfl
  | e :: es, h => by
    rw [mput_cons]
    cases he : keyEq k e.1 with
    | true => simp only [if_true]; rw [mget_cons, keyEq_self hk]; rfl
    | false => simp only [Bool.false_eq_true, if_false]; rw [mget_cons, he]; exact mget_put_same hk fun e' h' => h e' (by simp [h'])
theorem mget_put_ne {k k' : Value} {v : AV} (hk : isKey P kt k = true) (hk' : isKey P kt k' = true) (hne : k' ≠ k) : ∀ {es : List (Value × AV)}, keysOk P kt es → mget (mput es k v) k' = mget es k'
  | [], h => by
    show mget [(k, v)] k' = mget [] k'
    rw [mget_cons, keyEq_ne hk' hk hne]; rfl
  | e :: es, h => by
    rw [mput_cons]
    cases he : keyEq k e.1 with
    | true =>
      simp only [if_true]
      rw [mget_cons, mget_cons]
      have : k = e.1 := (keyEq_eq hk (h e (by simp))).1 he
      rw [← this, keyEq_ne hk' hk hne]; rfl
    | false => simp only [Bool.false_eq_true, if_false]; rw [mget_cons, mget_cons, mget_put_ne hk hk' hne fun e' h' => h e' (by simp [h'])]
end maps
end Go.Vc
