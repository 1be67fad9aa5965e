/-
  Texts that are appended to bytes; bytes that are handed out as a text; unsafe pointers that stay what they are; contracts of the library brought into the calculus.
-/
import Derived.Test.YtffgaoehhmgbjaaDoorPe
import Derived.Lib.AppendStr
import Derived.Lib.UnsafeStr
import Derived.Lib.Builder
import Derived.Laws.Externs
import Derived.Below
set_option linter.unusedVariables false
set_option linter.unusedSimpArgs false
namespace Go.Vc
open Go

section
variable {P : Program}
theorem append_str_run {w : World} {t u ty e : TypeId} (ek : ElemOk P t e 1 1) (hu : P.underlying u = some .string) (hz0 : (P.info? e).map (·.zero) = some (some (.int .u8 0))) {v : Value} {n : Nat} {xs : List Value} (hown : w.ownsRow 0 e 1 v n xs) (s : ByteArray) (h63 : n + s.size ≤ 140737488355328) (hm : n + s.size ≤ maxLen) :
    ∃ v' w', (Builtin.append_ #[t, u] ty #[v, .string s]).run P w = .ok v' w' ∧ w'.ownsRow 0 e 1 v' (n + s.size) (xs ++ Lib.strCells s) ∧ w.grownBy w' v.ownBlock ∧ (v'.ownBlock = v.ownBlock ∨ v'.ownBlock = some w.heap.size) ∧ (v' = .slice none 0 0 ↔ v = .slice none 0 0 ∧ s.size = 0) := by
  obtain ⟨i, z, hi, hz, hsz, hby, hzs⟩ := ek.info
  have ht := underlying_of_elemT ek.elem
  have hz' : i.zero = some (.int .u8 0) := by rw [hi] at hz0; simpa using hz0
  obtain ⟨v', w', hrun, h1, h2, h3⟩ := Lib.run_append_own_string (P := P) w 0 t u ty e i ht hu hi hz' hsz hby v n xs hown s hm h63 (Nat.zero_le _)
  refine ⟨v', w', hrun, h1, h2, ?_, h3⟩
  rcases hown.2 with ⟨rfl, rfl⟩ | ⟨g, cap, cur, rfl, hbg, hg, hnc, hcm, hcs, htake⟩
  · by_cases h0 : s.size = 0
    · rw [h3.2 ⟨rfl, h0⟩]; exact .inl rfl
    · have hr := run_append_nil_string (P := P) w t u ty e i z ht hu hi hz s (by omega) (by omega) (by rw [hby]; omega)
      rw [hr] at hrun
      injection hrun with e1 e2
      subst e1; exact .inr rfl
  · by_cases hroom : n + s.size ≤ cap
    · have hcs' : cur.size = cap := by simpa using hcs
      have hr := Lib.run_append_room_string (P := P) w t u ty e i ht hu hi hsz g n cap cur hg s hroom (by omega)
      rw [hr] at hrun
      injection hrun with e1 e2
      subst e1; exact .inl rfl
    · have hxl : xs.length = n := by simpa using hown.1
      have holds : ∀ j u, xs[j]? = some u → w.cell? ((⟨g, 0, none⟩ : Addr).add j) = some u := hown.cells (g := g) rfl
      have hr := Lib.run_append_grow_string (P := P) w t u ty e i (.int .u8 0) ht hu hi hz' ⟨g, 0, none⟩ n cap xs (by rw [hsz]; simpa using hxl) holds s (by omega) (by omega) (by rw [hby]; exact growslice_fits (by omega) (by omega))
      rw [hr] at hrun
      injection hrun with e1 e2
      subst e1; exact .inr rfl
end

section rules
variable {P : Program} {o : Oper} {env : Env} {H H0 : Heap} {K : AV → Heap → Prop} {E : List PanicEntry → Heap → Prop}
theorem encB_flat (bs : List UInt8) : (bs.map encB).flatten = bs.map fun b => AV.lit (.int .u8 b.toNat) := by
  induction bs with
  | nil => rfl
  | cons b bs ih => simp only [List.map_cons, List.flatten_cons, ih]; rfl
theorem strCells_enc (l : List UInt8) : Lib.strCells ⟨⟨l⟩⟩ = l.map fun b => Value.int .u8 b.toNat := rfl
theorem encB_lits {w : World} {D : Nat → Prop} (l : List UInt8) : VRs w D (l.map encB).flatten (Lib.strCells ⟨⟨l⟩⟩) := by
  rw [strCells_enc]
  induction l with
  | nil => exact .nil
  | cons b l ih => exact .cons (.lit _) ih
/-- a text behind bytes that are owned -/
theorem WpO.push_str {x y : Operand} {t u e : TypeId} {bs l : List UInt8} {p : Option (Nat × Nat)} (ho : o.op = .call { callee := .builtin .append, args := #[x, y], argTypes := #[t, u] }) (ek : ElemOk P t e 1 1) (hu : P.underlying u = some .string) (hz0 : (P.info? e).map (·.zero) = some (some (.int .u8 0)))
    (hx : env.ev x = .own (bs.map encB).length p) (own : Own H0 e 1 (bs.map encB) (bs.map encB).length p H) (hy : env.ev y = sA l) (hb : bs.length + l.length ≤ 140737488355328) (hinv : p ≠ none → bs ≠ [])
    (hk : ∀ p' H', Own H0 e 1 ((bs ++ l).map encB) ((bs ++ l).map encB).length p' H' → (p' ≠ none → bs ++ l ≠ []) → K (.own ((bs ++ l).map encB).length p') H') : WpO P o env H K E := by
  apply WpO.of_run (by simp [noDefer, ho])
  intro a w ⟨hr, hh⟩
  rw [ho] at hr
  have e0 := hr x (by simp [Op.operands, Call.operands])
  have e1 := hr y (by simp [Op.operands, Call.operands])
  rw [hx] at e0; rw [hy] at e1
  have e1 := e1.lit_inv
  have hln : (bs.map encB).length = bs.length := List.length_map ..
  have hexec : ∀ (v : Value) (v' : Value) (w' : World), a.eval x = v → (Builtin.append_ #[t, u] o.type #[v, .string ⟨⟨l⟩⟩]).run P w = .ok v' w' → (execOp a.eval o).run P w = .ok (.value v') w' := fun v v' w' ev hrun => by
    unfold execOp; rw [ho]
    simp only [resolve, Sem.run_bind, Sem.run_pure, Result.andThen_ok, invoke, builtin, List.map_toArray, List.map_cons, List.map_nil, ev, e1, hrun]
  have hflen : ∀ l : List UInt8, (l.map encB).flatten.length = (l.map encB).length * 1 := fun l => flatten_length _ (fun e he => by obtain ⟨b, _, rfl⟩ := List.mem_map.1 he; rfl)
  have hsz : ∀ e ∈ (bs ++ l).map encB, e.length = 1 := fun e he => by obtain ⟨b, _, rfl⟩ := List.mem_map.1 he; rfl
  have hsize : (ByteArray.mk ⟨l⟩).size = l.length := rfl
  have hlt2 : ((bs ++ l).map encB).length = bs.length + l.length := by simp
  have hfl2 : ((bs ++ l).map encB).flatten = (bs.map encB).flatten ++ (l.map encB).flatten := by rw [List.map_append, List.flatten_append]
  rcases Own.inv own with ⟨rfl, hnil, rfl⟩ | ⟨g, c, rfl, hg, rfl⟩
  · have hbs : bs = [] := by simpa using hnil
    subst hbs
    have e0 := e0.nil_inv.2
    obtain ⟨v', w', hrun, q1, q2, q3, q4⟩ := append_str_run (P := P) (ty := o.type) ek hu hz0 (World.ownsRow_nil w 0 e 1) ⟨⟨l⟩⟩ (by simpa [hsize] using hb) (by simp only [maxLen, hsize]; simp at hb; omega)
    by_cases hl : l = []
    · subst hl
      rw [q4.2 ⟨rfl, rfl⟩] at hrun
      have ev : Evol H w H w' := grown_evol (g := 0) (ob := .raw default) q2 (fun k hk => by cases hk) (fun k hk => .inl hk)
      exact ⟨.own 0 none, .slice none 0 0, H, w', hexec _ _ _ e0 hrun, ev, fun k ob hob => (hh k ob hob).mono ev.size ev.hk (q2.block k (hh k ob hob).lt (by simp [Value.ownBlock])), .own0, hk none H (.nil rfl) (fun h => (h rfl).elim)⟩
    · have hl0 : l.length ≠ 0 := fun h => hl (List.eq_nil_of_length_eq_zero h)
      simp only [Value.ownBlock, Nat.zero_add, List.nil_append, hsize] at q1 q2 q3
      rcases q1.2 with ⟨r1, r2⟩ | ⟨g, cap, cur, rfl, _, r3, r4, r5, r6, r7⟩
      · exact (hl0 r2).elim
      simp only [Value.ownBlock, Option.some.injEq, reduceCtorEq, false_or] at q3
      subst q3
      have ev : Evol H w (H.set w.heap.size (.row e 1 (([] ++ l).map encB) cap)) w' := grown_evol (g := 0) (ob := .raw default) q2 (fun k hk => by cases hk) (fun k hk => by
        rcases (dom_set (o := .row e 1 (([] ++ l).map encB) cap)).1 hk with h | h
        · exact .inr (by omega)
        · exact .inl h)
      refine ⟨_, _, _, w', hexec _ _ _ e0 hrun, ev, ?_, by
        have := VR.buf (w := w') (D := (H.set w.heap.size (.row e 1 (([] ++ l).map encB) cap)).dom) w.heap.size l.length cap
        have e3 : (([] ++ l).map encB).length = l.length := by simp
        rw [← e3] at this; simpa using this, hk _ _ (.row w.heap.size cap (hh.fresh (Nat.le_refl _)) rfl) (fun _ => by simpa using hl)⟩
      intro k ob hob
      by_cases hkk : k = w.heap.size
      · subst hkk
        rw [Heap.set_same] at hob; injection hob with hob; subst hob
        refine ⟨cur, r3, r6, by simpa using r4, r5, hsz, ?_⟩
        have : cur.toList.take ((([] ++ l).map encB).length * 1) = Lib.strCells ⟨⟨l⟩⟩ := by rw [← r7]; simp
        rw [this]
        exact encB_lits l
      · rw [Heap.set_ne _ _ hkk] at hob
        exact (hh k ob hob).mono ev.size ev.hk (q2.block k (hh k ob hob).lt (by simp))
  · have e0 := e0.buf_inv
    obtain ⟨cur0, b1, b2, b3, b4, b5, b6⟩ := hh g _ (Heap.set_same _ _ _)
    rw [hln] at b3 b6 e0
    have hown : w.ownsRow 0 e 1 (.slice (some ⟨g, 0, none⟩) bs.length c) bs.length (cur0.toList.take (bs.length * 1)) :=
      ⟨by have hh1 : cur0.toList.length = cur0.size := Array.length_toList; rw [List.length_take, hh1, b2]; omega, .inr ⟨g, c, cur0, rfl, Nat.zero_le _, b1, by omega, b4, b2, rfl⟩⟩
    obtain ⟨v', w', hrun, q1, q2, q3, q4⟩ := append_str_run (P := P) (ty := o.type) ek hu hz0 hown ⟨⟨l⟩⟩ (by simpa [hsize] using hb) (by simp only [maxLen, hsize]; omega)
    simp only [Value.ownBlock, hsize] at q1 q2 q3
    rcases q1.2 with ⟨r1, r2⟩ | ⟨g', cap', cur, rfl, _, r3, r4, r5, r6, r7⟩
    · subst r1
      simp only [Value.ownBlock, reduceCtorEq, or_self] at q3
    simp only [Value.ownBlock, Option.some.injEq] at q3
    have hg' : H0 g' = none := by
      rcases q3 with rfl | h
      · exact hg
      · exact Heap.le_none (Heap.set_drop hg _) (h ▸ hh.fresh (Nat.le_refl _))
    have ev : Evol (H0.set g (.row e 1 (bs.map encB) c)) w (H0.set g' (.row e 1 ((bs ++ l).map encB) cap')) w' := grown_evol (g := 0) (ob := .raw default) q2 (fun k hk => by injection hk with hk; subst hk; exact (dom_set).2 (.inl rfl)) (fun k hk => by
      rcases (dom_set (o := .row e 1 ((bs ++ l).map encB) cap')).1 hk with h | h
      · rcases q3 with h2 | h2
        · exact .inl ((dom_set).2 (.inl (by rw [h, h2])))
        · exact .inr (by omega)
      · exact .inl ((dom_set).2 (.inr h)))
    refine ⟨_, _, _, w', hexec _ _ _ e0 hrun, ev, ?_, by
      have := VR.buf (w := w') (D := (H0.set g' (.row e 1 ((bs ++ l).map encB) cap')).dom) g' (bs.length + l.length) cap'
      rw [← hlt2] at this; simpa using this, hk _ _ (.row g' cap' hg' rfl) (fun _ => by have := hinv (by simp); simp [this])⟩
    intro k ob hob
    by_cases hkk : k = g'
    · subst hkk
      rw [Heap.set_same] at hob; injection hob with hob; subst hob
      refine ⟨cur, r3, r6, by rw [hlt2]; exact r4, r5, hsz, ?_⟩
      rw [hlt2, r7, hfl2]
      exact (b6.append (encB_lits l)).evol ev
    · rw [Heap.set_ne _ _ hkk] at hob
      have hkg : k ≠ g := fun e => by subst e; rw [hg] at hob; cases hob
      have hob' : (H0.set g (.row e 1 (bs.map encB) c)) k = some ob := by rw [Heap.set_ne _ _ hkg]; exact hob
      exact (hh k ob hob').mono ev.size ev.hk (q2.block k (hh k ob hob').lt (fun h => hkg (by injection h)))

/-! ### pointers that go through unsafe.Pointer -/
theorem cells_shape {w : World} {D : Nat → Prop} {g t : Nat} {cs : List AV} (h : ObjR w D g (.cells t cs)) : w.shape? g = some (t, cs.length) := by
  obtain ⟨us, h1, h2⟩ := h
  simp [World.shape?, h1, h2.1]
theorem Exact.to_unsafe {src dst t T : TypeId} {x : Operand} {g : Nat} {cs : List AV} {j : TypeInfo} (ho : o.op = .convert src dst x) (hx : env.ev x = .lit (.pointer (some ⟨g, 0, none⟩))) (hg : H g = some (.cells T cs)) (hs : P.underlying src = some (.pointer t)) (hd : P.underlying dst = some .unsafePointer)
    (hj : P.info? t = some j) (hj0 : j.size ≠ 0) (hl : cs ≠ []) : Exact P o env H (.lit (.pointer (some ⟨g, 0, none⟩))) := by
  apply Exact.of_run (by simp [noDefer, ho])
  intro a w ⟨hr, hh⟩
  rw [ho] at hr
  have e0 := hr x (by simp [Op.operands])
  rw [hx] at e0
  have e0 := e0.lit_inv
  refine ⟨_, ?_, .lit _⟩
  unfold execOp; rw [ho]
  have := Lib.run_to_unsafe (P := P) w ⟨g, 0, none⟩ hs hd hj hj0 (cells_shape (hh g _ hg)) (by have := List.length_pos_iff.2 hl; exact this)
  simp only [e0, Sem.run_bind, this, Result.andThen_ok, Sem.run_pure]
theorem Exact.from_unsafe {src dst u T : TypeId} {x : Operand} {g : Nat} {cs : List AV} {j : TypeInfo} (ho : o.op = .convert src dst x) (hx : env.ev x = .lit (.pointer (some ⟨g, 0, none⟩))) (hg : H g = some (.cells T cs)) (hs : P.underlying src = some .unsafePointer) (hd : P.underlying dst = some (.pointer u))
    (hj : P.info? u = some j) (hlies : liesAt P P.depth T (cs.length / P.cellsOf T) 0 u 1 = true) : Exact P o env H (.lit (.pointer (some ⟨g, 0, none⟩))) := by
  apply Exact.of_run (by simp [noDefer, ho])
  intro a w ⟨hr, hh⟩
  rw [ho] at hr
  have e0 := hr x (by simp [Op.operands])
  rw [hx] at e0
  have e0 := e0.lit_inv
  refine ⟨_, ?_, .lit _⟩
  unfold execOp; rw [ho]
  have := Lib.run_from_unsafe (P := P) w ⟨g, 0, none⟩ hs hd hj (cells_shape (hh g _ hg)) hlies
  simp only [e0, Sem.run_bind, this, Result.andThen_ok, Sem.run_pure]
/-- a function of the model's own that hands its argument back -/
theorem Exact.same {f : FuncId} {fn : Func} {x : Operand} {ts : Array TypeId} {v : AV} (ho : o.op = .call { callee := .value (.func f), args := #[x], argTypes := ts }) (hf : P.funcs[f]? = some fn) (hname : (fn.name == "runtime.NumGoroutine") = false) (hb : fn.body.isNone = true) (hn : Extern.findNext fn = none)
    (he : Extern.find fn = some Extern.AbiNoEscape.same) (hx : env.ev x = v) : Exact P o env H v := by
  apply Exact.of_run (by simp [noDefer, ho])
  intro a w ⟨hr, hh⟩
  rw [ho] at hr
  have e0 := hr x (by simp [Op.operands, Call.operands])
  rw [hx] at e0
  refine ⟨_, ?_, e0⟩
  rw [Conc.execOp_call_func ho, run_callFunc_extern hf hname hb hn he, show (#[x] : Array Operand).map a.eval = #[a.eval x] by simp, Lib.run_noEscape]
  rfl
theorem Exact.neq_ptr {t te ty : TypeId} {x y : Operand} {A : Addr} {j : TypeInfo} (ho : o.op = .binOp .neq t x y ty) (hx : env.ev x = .lit (.pointer (some A))) (hy : env.ev y = .lit (.pointer (some A))) (ht : P.underlying t = some (.pointer te)) (hj : P.info? te = some j) : Exact P o env H (bA false) := by
  apply Exact.of_run (by simp [noDefer, ho])
  intro a w ⟨hr, hh⟩
  rw [ho] at hr
  have e0 := hr x (by simp [Op.operands])
  have e1 := hr y (by simp [Op.operands])
  rw [hx] at e0; rw [hy] at e1
  have e0 := e0.lit_inv
  have e1 := e1.lit_inv
  refine ⟨_, ?_, .lit _⟩
  unfold execOp; rw [ho]
  have hg : (eqGuard .neq t x y (.pointer (some A)) (.pointer (some A))).run P w = .ok () w := eqGuard_noop (by simp) (by simp)
  have := Lib.run_neq_ptr_same (P := P) w A ht hj
  simp only [e0, e1, Sem.run_bind, hg, this, Result.andThen_ok, Sem.run_pure]

/-! ### bytes that are handed out as a text -/
theorem Exact.sliceData {x : Operand} {ts : Array TypeId} {bs : List UInt8} {p : Option (Nat × Nat)} {e : TypeId} (ho : o.op = .call { callee := .builtin .unsafeSliceData, args := #[x], argTypes := ts }) (hx : env.ev x = .own (bs.map encB).length p) (own : Own H0 e 1 (bs.map encB) (bs.map encB).length p H) (hne : p ≠ none → bs ≠ []) :
    Exact P o env H (.lit (.pointer (p.map fun q => ⟨q.1, 0, none⟩))) := by
  apply Exact.of_run (by simp [noDefer, ho])
  intro a w ⟨hr, hh⟩
  rw [ho] at hr
  have e0 := hr x (by simp [Op.operands, Call.operands])
  rw [hx] at e0
  rcases Own.inv own with ⟨rfl, hnil, rfl⟩ | ⟨g, c, rfl, hg, rfl⟩
  · have e0 := e0.nil_inv.2
    refine ⟨_, ?_, .lit _⟩
    unfold execOp; rw [ho]
    simp only [resolve, Sem.run_bind, Sem.run_pure, Result.andThen_ok, invoke, builtin, List.map_toArray, List.map_cons, List.map_nil, e0, Lib.run_unsafeSliceData_nil, Option.map_none]
  · have e0 := e0.buf_inv
    obtain ⟨cur0, b1, b2, b3, b4, b5, b6⟩ := hh g _ (Heap.set_same _ _ _)
    have hb := hne (by simp)
    have hc : c ≠ 0 := by
      have : 0 < bs.length := List.length_pos_iff.2 hb
      simp only [List.length_map] at b3; omega
    refine ⟨_, ?_, .lit _⟩
    unfold execOp; rw [ho]
    simp only [resolve, Sem.run_bind, Sem.run_pure, Result.andThen_ok, invoke, builtin, List.map_toArray, List.map_cons, List.map_nil, e0, Lib.run_unsafeSliceData_row _ _ _ _ _ _ hc, Option.map_some]
theorem freeze_heap (w : World) (g n k : Nat) (h : k ≠ g) : (w.freeze ⟨g, 0, none⟩ n).heap[k]? = w.heap[k]? := by
  unfold World.freeze
  split
  · rfl
  · simp only [Array.getElem?_modify]
    rw [if_neg (fun e => h e.symm)]
theorem WpO.unsafeString {x y : Operand} {pt it e : TypeId} {bs : List UInt8} {p : Option (Nat × Nat)} (ho : o.op = .call { callee := .builtin .unsafeString, args := #[x, y], argTypes := #[pt, it] }) (hx : env.ev x = .lit (.pointer (p.map fun q => ⟨q.1, 0, none⟩))) (hy : env.ev y = iA bs.length) (own : Own H0 e 1 (bs.map encB) (bs.map encB).length p H)
    (hp : P.underlying pt = some (.pointer e)) (hc : P.cellsOf e = 1) (hne : p ≠ none → bs ≠ []) (hk : K (sA bs) H0) : WpO P o env H K E := by
  apply WpO.of_run (by simp [noDefer, ho])
  intro a w ⟨hr, hh⟩
  rw [ho] at hr
  have e0 := hr x (by simp [Op.operands, Call.operands])
  have e1 := hr y (by simp [Op.operands, Call.operands])
  rw [hx] at e0; rw [hy] at e1
  have f0 := e0.lit_inv
  have f1 := e1.lit_inv
  rcases Own.inv own with ⟨rfl, hnil, rfl⟩ | ⟨g, c, rfl, hg, rfl⟩
  · have hbs : bs = [] := by simpa using hnil
    subst hbs
    refine ⟨sA [], .string ⟨⟨[]⟩⟩, H, w, ?_, .refl _ _, hh, .lit _, hk⟩
    unfold execOp; rw [ho]
    have := Lib.run_unsafeString_none (P := P) w pt it o.type none
    simp only [resolve, Sem.run_bind, Sem.run_pure, Result.andThen_ok, invoke, builtin, List.map_toArray, List.map_cons, List.map_nil, f0, f1, Option.map_none, List.length_nil]
    rw [show ((0 : Nat) : Int) = 0 from rfl, this]
    rfl
  · have hb := hne (by simp)
    obtain ⟨cur0, b1, b2, b3, b4, b5, b6⟩ := hh g _ (Heap.set_same _ _ _)
    have hsh : w.shape? g = some (e, cur0.size) := by simp [World.shape?, b1]
    have hlen : bs.length ≤ cur0.size := by rw [b2, Nat.mul_one]; simpa using b3
    have hcell : ∀ (j : Nat) (x : UInt8), bs[j]? = some x → w.cell? ((⟨g, 0, none⟩ : Addr).add j) = some (.int .u8 x.toNat) := fun j x hj => by
      rw [addr_add, Nat.zero_add, cell_of_row w g j _ _ _ b1]
      have h1 : (bs.map encB).flatten[j]? = some (.lit (.int .u8 x.toNat)) := by
        rw [encB_flat, List.getElem?_map, hj]; rfl
      obtain ⟨u, hu1, hu2⟩ := b6.at_ h1
      obtain rfl := hu2.lit_inv
      rw [List.getElem?_take] at hu1
      split at hu1
      · simpa using hu1
      · cases hu1
    have hm : bs.length ≤ 9223372036854775807 := by simp only [List.length_map] at b3; simp only [maxLen] at b4; omega
    have hrun := Lib.run_unsafeString_row (P := P) w pt it o.type e hp hc g cur0.size hsh bs hb hlen hm hcell
    have hle : H0.le (H0.set g (.row e 1 (bs.map encB) c)) := Heap.set_drop hg _
    have hnd : ¬ H0.dom g := fun ⟨x, hx, _⟩ => by rw [hg] at hx; cases hx
    have hsz : w.heap.size ≤ (w.freeze ⟨g, 0, none⟩ bs.length).heap.size := by unfold World.freeze; split <;> simp
    have hos : (w.freeze ⟨g, 0, none⟩ bs.length).os = w.os ∧ (w.freeze ⟨g, 0, none⟩ bs.length).tape = w.tape ∧ (w.freeze ⟨g, 0, none⟩ bs.length).output = w.output := by unfold World.freeze; split <;> exact ⟨rfl, rfl, rfl⟩
    have ev : Evol (H0.set g (.row e 1 (bs.map encB) c)) w H0 (w.freeze ⟨g, 0, none⟩ bs.length) := ⟨hos.1, hos.2.1, hos.2.2, hsz, fun k hk hn => freeze_heap _ _ _ _ (fun e => hn ((dom_set).2 (.inl e))), fun k hk => .inl ((dom_set).2 (.inr hk))⟩
    refine ⟨sA bs, .string ⟨⟨bs⟩⟩, H0, _, ?_, ev, fun k ob hob => ?_, .lit _, hk⟩
    · unfold execOp; rw [ho]
      simp only [resolve, Sem.run_bind, Sem.run_pure, Result.andThen_ok, invoke, builtin, List.map_toArray, List.map_cons, List.map_nil, f0, f1, Option.map_some]
      rw [hrun]; rfl
    · have hkg : k ≠ g := fun e => by subst e; rw [hg] at hob; cases hob
      have hob' : (H0.set g (.row e 1 (bs.map encB) c)) k = some ob := by rw [Heap.set_ne _ _ hkg]; exact hob
      exact (hh k ob hob').mono ev.size ev.hk (freeze_heap _ _ _ _ hkg)
end rules

/-! ### contracts of the library -/
theorem Evol.of_below {H : Heap} {w w' : World} (h : RowKit.Below w.heap.size w w') : Evol H w H w' :=
  ⟨h.os, h.tape, h.output, h.size, fun k hk _ => h.block k hk, fun k hk => .inl hk⟩
theorem HeapR.below {H : Heap} {w w' : World} (hh : HeapR w H) (h : RowKit.Below w.heap.size w w') : HeapR w' H := fun k o hk =>
  (hh k o hk).mono h.size (Evol.of_below (H := H) h).hk (h.block k (hh k o hk).lt)
theorem tcall_lit {P : Program} {f : FuncId} {H : Heap} {us : List Value} {u : Value} (h : ∀ w, HeapR w H → Calls P f us.toArray w fun e w' => e = .returned u ∧ RowKit.Below w.heap.size w w') : TCall P f (us.map .lit) H (fun v H' => v = .lit u ∧ H' = H) noE := fun vs w hv hh => by
  obtain rfl := VRs.lits hv
  refine (h w hh).mono fun e w' ⟨he, hb⟩ => ?_
  subst he
  exact ⟨H, Evol.of_below hb, hh.below hb, .lit u, .lit u, rfl, rfl⟩
theorem tcall_lit0 {P : Program} {f : FuncId} {H : Heap} {us : List Value} {u : Value} (h : ∀ w, HeapR w H → Calls P f us.toArray w fun e w' => e = .returned u ∧ w' = w) : TCall P f (us.map .lit) H (fun v H' => v = .lit u ∧ H' = H) noE :=
  tcall_lit fun w hh => (h w hh).mono fun e w' ⟨h1, h2⟩ => ⟨h1, by subst h2; exact RowKit.Below.refl _ _⟩
theorem HeapR.cell0 {H : Heap} {w : World} {g : Nat} {v : Value} {vs : List Value} (h : HeapR w H) (hg : H g = some (.ro (v :: vs))) : w.cell? ⟨g, 0, none⟩ = some v := by
  obtain ⟨cur, t, z, h1, h2⟩ := h g _ hg
  have := h2 0 v rfl
  simp [World.cell?, h1]; exact this
end Go.Vc
