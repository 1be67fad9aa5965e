/-
  The rest of a slice that is owned: as a value; cleared. It hangs on no seat.
-/
import Derived.Test.YtffgaoehhmgbjaaDoorTv
import Derived.Laws.CopyRow
set_option linter.unusedVariables false
set_option linter.unusedSimpArgs false
namespace Go.Vc
open Go
section
variable {P : Program} {o : Oper} {env : Env} {H H0 : Heap} {K : AV → Heap → Prop} {E : List PanicEntry → Heap → Prop} {rs : List Res}
theorem Exact.slice_rest {t e ty : TypeId} {x y : Operand} {k0 : IntKind} {g n c k size : Nat} {es : List (List AV)} (ho : o.op = .slice t x (some y) none none) (hx : env.ev x = .buf g n c) (hy : env.ev y = .lit (.int k0 (.ofNat k))) (hg : H g = some (.row ty size es c)) (hn : n ≤ es.length) (hk : k ≤ n)
    (ht : elemT P t = some e) (hsz : P.cellsOf e = size) (hz : size ≠ 0) : Exact P o env H (.lit (.slice (some ⟨g, if k < c then k * size else 0, none⟩) (n - k) (c - k))) := by
  apply Exact.of_run (by simp [noDefer, ho])
  intro a w ⟨hr, hh⟩
  rw [ho] at hr
  have h0 := hr x (by simp [Op.operands])
  have h1 := hr y (by simp [Op.operands])
  rw [hx] at h0; rw [hy] at h1
  have e0 := h0.buf_inv
  have e1 := h1.lit_inv
  obtain ⟨cur, _, _, hc, _⟩ := hh g _ hg
  have hu := underlying_of_elemT ht
  have hb := sliceBounds_run (P := P) (w := w) (isS := true) (len := n) (cap := c) (lo := some k) (hi := none) (mx := none) (ul := some (.int k0 (Int.ofNat k))) (uh := none) (um := none) (.inr ⟨k, k0, rfl, rfl⟩) (.inl ⟨rfl, rfl⟩) (.inl ⟨rfl, rfl⟩) (by omega) hk trivial
  have hso := cellsOf_run (w := w) (P := P) (t := e) hsz hz
  refine ⟨.slice (some ⟨g, if k < c then k * size else 0, none⟩) (n - k) (c - k), ?_, .lit _⟩
  unfold execOp
  rw [ho]
  simp only [Option.map_none, Option.map_some, e0, e1, Instr.sliceAt, Instr.slice, Sem.run_bind, run_underlying hu, Result.andThen_ok, hb, hso, Sem.run_pure]
  simp only [Option.getD_none, Option.getD_some, loOf, hiOf]
  by_cases h : k < c
  · have h2 : ¬ c = k := by omega
    simp [h, h2, addr_add]
  · have h2 : c = k := by omega
    simp [h2]
theorem Exact.slice_buf2 {t e : TypeId} {x y : Operand} {k0 : IntKind} {g n c k size : Nat} (ho : o.op = .slice t x none (some y) none) (hx : env.ev x = .buf g n c) (hy : env.ev y = .lit (.int k0 (.ofNat k))) (hn : n ≤ c) (hk : k ≤ n)
    (ht : elemT P t = some e) (hsz : P.cellsOf e = size) (hz : size ≠ 0) : Exact P o env H (.buf g k c) := by
  apply Exact.of_run (by simp [noDefer, ho])
  intro a w ⟨hr, hh⟩
  rw [ho] at hr
  have h0 := hr x (by simp [Op.operands])
  have h1 := hr y (by simp [Op.operands])
  rw [hx] at h0; rw [hy] at h1
  have e0 := h0.buf_inv
  have e1 := h1.lit_inv
  have hu := underlying_of_elemT ht
  have hb := sliceBounds_run (P := P) (w := w) (isS := true) (len := n) (cap := c) (lo := none) (hi := some k) (mx := none) (ul := none) (uh := some (.int k0 (Int.ofNat k))) (um := none) (.inl ⟨rfl, rfl⟩) (.inr ⟨k, k0, rfl, rfl⟩) (.inl ⟨rfl, rfl⟩) (by omega) hk trivial
  have hso := cellsOf_run (w := w) (P := P) (t := e) hsz hz
  refine ⟨.slice (some ⟨g, 0, none⟩) k c, ?_, .buf _ _ _⟩
  unfold execOp
  rw [ho]
  simp only [Option.map_none, Option.map_some, e0, e1, Instr.sliceAt, Instr.slice, Sem.run_bind, run_underlying hu, Result.andThen_ok, hb, hso, Sem.run_pure]
  simp only [Option.getD_none, loOf, hiOf, Nat.zero_mul, Nat.sub_zero]
  split
  · rfl
  · simp [Addr.add]
theorem zeros_one {z : Array Value} (h : ∀ u ∈ z.toList, u.oneCell' = true) (hz : z.size ≠ 0) (m : Nat) : ∀ u ∈ (Builtin.zeroCells z m).toList, u.oneCell' = true := by
  intro u hu
  unfold Builtin.zeroCells at hu
  simp only [Array.toList_map, List.mem_map] at hu
  obtain ⟨i, _, rfl⟩ := hu
  have hlt : i % z.size < z.size := Nat.mod_lt _ (by omega)
  rw [getElem!_pos z (i % z.size) hlt]
  exact h _ (by simp)
/-- the rest of a row is cleared, and is told no more -/
theorem WpO.clearCut {t e : TypeId} {x : Operand} {g c c' k m off size : Nat} {es : List (List AV)} (ho : o.op = .call { callee := .builtin .clear, args := #[x], argTypes := #[t] }) (he : elemT P t = some e) (hzz : ((P.info? e).bind (·.zero)).map (fun z => (z.cells.size == size) && z.cells.toList.all (·.oneCell')) = some true) (hpos : size ≠ 0)
    (hx : env.ev x = .lit (.slice (some ⟨g, off, none⟩) m c')) (hg : H g = some (.row e size es c)) (hoff : k < c → off = k * size) (hk : k + m = es.length) (hK : es.length ≤ c → K (.lit (.tuple #[])) (H.set g (.row e size (es.take k) c))) : WpO P o env H K E := by
  obtain ⟨z, hz0, hz2⟩ := Option.map_eq_some_iff.1 hzz
  obtain ⟨it, hi, hz⟩ := Option.bind_eq_some_iff.1 hz0
  simp only [Bool.and_eq_true, beq_iff_eq, List.all_eq_true] at hz2
  obtain ⟨hsz, hz1⟩ := hz2
  apply WpO.of_run (by simp [noDefer, ho])
  intro a w ⟨hr, hh⟩
  rw [ho] at hr
  have h0 := hr x (by simp [Op.operands, Call.operands])
  rw [hx] at h0
  have e0 := h0.lit_inv
  have hu := underlying_of_elemT he
  have hd : H.dom g := ⟨_, hg, rfl⟩
  obtain ⟨cur, g1, g2, g3, g4, g5, g6⟩ := hh g _ hg
  replace hK := hK g3
  by_cases hm : m = 0
  · subst hm
    have e1 : es.take k = es := List.take_of_length_le (by omega)
    have e2 : H.set g (.row e size (es.take k) c) = H := by
      rw [e1]; funext q; simp only [Heap.set]; split
      · rename_i h; rw [h, hg]
      · rfl
    rw [e2] at hK
    refine ⟨_, .tuple #[], H, w, ?_, .refl _ _, hh, .lit _, hK⟩
    unfold execOp; rw [ho]
    simp only [resolve, Sem.run_bind, Sem.run_pure, Result.andThen_ok, invoke, builtin, List.map_toArray, List.map_cons, List.map_nil, e0, Builtin.clear_, run_underlying hu]
    simp [run_underlying hu]
  · have hzs : (zeroValue e).run P w = .ok z w := by simp [zeroValue, typeInfo, hi, hz]
    have hkc : k < c := by omega
    have hoff := hoff hkc
    subst hoff
    have hl : (Builtin.zeroCells z.cells m).toList.length = m * size := by simp [Builtin.zeroCells, hsz]
    have hfit : k * size + 0 + (Builtin.zeroCells z.cells m).toList.length ≤ cur.size := by
      rw [hl, g2]
      have : (k + m) * size ≤ c * size := Nat.mul_le_mul_right _ (by omega)
      rw [Nat.add_mul] at this; omega
    have hrun := run_storeCells_at P g (k * size) e (Builtin.zeroCells z.cells m).toList 0 cur w g1 hfit (zeros_one hz1 (by omega) m)
    simp only [Nat.add_zero] at hrun
    have ev := setRow_evol (w := w) (cur.toList.take (k * size) ++ (Builtin.zeroCells z.cells m).toList ++ cur.toList.drop (k * size + (Builtin.zeroCells z.cells m).toList.length)).toArray (.row e size (es.take k) c) hd
    refine ⟨_, .tuple #[], _, _, ?_, ev, ?_, .lit _, hK⟩
    · unfold execOp; rw [ho]
      simp only [resolve, Sem.run_bind, Sem.run_pure, Result.andThen_ok, invoke, builtin, List.map_toArray, List.map_cons, List.map_nil, e0, Builtin.clear_]
      simp [run_underlying hu, hzs, hm, hrun]
    · refine HeapR.write _ hh ev (fun k hk => setRow_other w g k _ hk) ⟨_, setRow_heap w g _ _ _ _ g1, ?_, by rw [List.length_take]; omega, g4, fun q hq => g5 q (List.mem_of_mem_take hq), ?_⟩
      · have : (k + m) * size ≤ c * size := Nat.mul_le_mul_right _ (by omega)
        rw [Nat.add_mul] at this
        simp only [List.size_toArray, List.length_append, List.length_take, List.length_drop, Array.length_toList, g2, hl]; omega
      · have hmin : min k es.length = k := by omega
        rw [List.length_take, hmin, flatten_take _ _ g5]
        have h6 := (g6.take (k * size)).evol ev
        have hle : k * size ≤ es.length * size := Nat.mul_le_mul_right _ (by omega)
        have hle2 : es.length * size ≤ c * size := Nat.mul_le_mul_right _ (by omega)
        have e5 : (cur.toList.take (k * size) ++ (Builtin.zeroCells z.cells m).toList ++ cur.toList.drop (k * size + (Builtin.zeroCells z.cells m).toList.length)).take (k * size) = (cur.toList.take (es.length * size)).take (k * size) := by
          rw [List.take_take, Nat.min_eq_left hle, List.append_assoc, List.take_append_of_le_length (by rw [List.length_take, Array.length_toList, g2]; omega), List.take_take, Nat.min_self]
        rw [e5]
        exact h6
end
end Go.Vc
