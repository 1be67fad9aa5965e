/-
  What a stretch of code owns, as a list: cells, and slices that grow; each may be worked at by itself.
-/
import Derived.Test.YtffgaoehhmgbjaaDoorVr
import Derived.Test.YtffgaoehhmgbjaaDoorSh
set_option linter.unusedVariables false
set_option linter.unusedSimpArgs false
namespace Go.Vc
open Go

inductive Res where
  | cell (g : Nat) (t : TypeId) (cs : List AV)
  | own (t size : Nat) (p : Option (Nat × Nat)) (es : List (List AV))
  | bld (g t et : Nat) (bs : List UInt8)
  | many (p : List (Nat × AObj) → Prop)
/-- one more block -/
def rawPut (b : Nat × AObj) (H1 H : Heap) : Prop := H1 b.1 = none ∧ H = H1.set b.1 b.2
def manyPut : List (Nat × AObj) → Heap → Heap → Prop
  | [], H1, H => H = H1
  | b :: bs, H1, H => ∃ H2, manyPut bs H1 H2 ∧ rawPut b H2 H
def Res.put : Res → Heap → Heap → Prop
  | .cell g t cs, H1, H => H1 g = none ∧ H = H1.set g (.cells t cs)
  | .own t size p es, H1, H => Own H1 t size es es.length p H
  | .bld g t et bs, H1, H => ∃ p a H2, Own H1 et 1 (bs.map encB) (bs.map encB).length p H2 ∧ (H2 g = none ∧ H = H2.set g (.cells t [a, .own (bs.map encB).length p])) ∧ (a = .lit (.pointer none) ∨ a = .lit (.pointer (some ⟨g, 0, none⟩))) ∧ (p ≠ none → bs ≠ [])
  | .many p, H1, H => ∃ bs, p bs ∧ manyPut bs H1 H
def Holds (H0 : Heap) : List Res → Heap → Prop
  | [], H => H = H0
  | r :: rs, H => ∃ H1, Holds H0 rs H1 ∧ r.put H1 H

theorem Own.inv {H1 H : Heap} {t size n : Nat} {es : List (List AV)} {p : Option (Nat × Nat)} (h : Own H1 t size es n p H) : (p = none ∧ es = [] ∧ H = H1) ∨ ∃ g c, p = some (g, c) ∧ H1 g = none ∧ H = H1.set g (.row t size es c) := by
  cases h with
  | nil h => exact .inl ⟨rfl, h, rfl⟩
  | row g c h hn => exact .inr ⟨g, c, rfl, h, rfl⟩

section
variable {H0 H H1 H2 H3 : Heap} {r r1 r2 : Res} {rs : List Res}
theorem Res.put.le (h : r.put H1 H) : H1.le H := by
  have own : ∀ {H1 H : Heap} {t size n : Nat} {es : List (List AV)} {p : Option (Nat × Nat)}, Own H1 t size es n p H → H1.le H := fun h => h.le
  cases r with
  | cell g t cs => rw [h.2]; exact Heap.set_drop h.1 _
  | own t size p es => exact own h
  | bld g t et bs =>
    obtain ⟨p, a, H2, h1, ⟨h2, rfl⟩, _⟩ := h
    exact Heap.le_trans (own h1) (Heap.set_drop h2 _)
  | many p =>
    obtain ⟨bs, _, h⟩ := h
    have key : ∀ (bs : List (Nat × AObj)) (H : Heap), manyPut bs H1 H → H1.le H := by
      intro bs
      induction bs with
      | nil => intro H h; rw [show H = H1 from h]; exact Heap.le_refl _
      | cons b bs ih => intro H ⟨H2, h1, h2, e⟩; rw [e]; exact Heap.le_trans (ih H2 h1) (Heap.set_drop h2 _)
    exact key bs H h
theorem Holds.le : ∀ {rs : List Res} {H : Heap}, Holds H0 rs H → H0.le H
  | [], H, h => by rw [show H = H0 from h]; exact Heap.le_refl _
  | r :: rs, H, ⟨H1, h1, h2⟩ => Heap.le_trans h1.le h2.le
theorem Heap.set_comm {H : Heap} {a b : Nat} (h : a ≠ b) (x y : AObj) : (H.set a x).set b y = (H.set b y).set a x := by
  funext k
  simp only [Heap.set]
  by_cases h1 : k = b
  · subst h1; simp [Ne.symm h]
  · simp [h1]
/-- two things may be laid in either order -/
def Res.simple : Res → Bool
  | .bld _ _ _ _ => false
  | _ => true
theorem raw_swap {b c : Nat × AObj} {H1 H2 H3 : Heap} (h1 : rawPut b H1 H2) (h2 : rawPut c H2 H3) : ∃ H', rawPut c H1 H' ∧ rawPut b H' H3 := by
  obtain ⟨a1, rfl⟩ := h1
  obtain ⟨a2, rfl⟩ := h2
  have hne : c.1 ≠ b.1 := by intro e; rw [e, Heap.set_same] at a2; cases a2
  rw [Heap.set_ne _ _ hne] at a2
  exact ⟨_, ⟨a2, rfl⟩, by rw [Heap.set_ne _ _ (Ne.symm hne)]; exact a1, Heap.set_comm (Ne.symm hne) _ _⟩
theorem raw_own {b : Nat × AObj} {H1 H2 H3 : Heap} {t size : Nat} {p : Option (Nat × Nat)} {es : List (List AV)} (h1 : rawPut b H1 H2) (h2 : Own H2 t size es es.length p H3) : ∃ H', Own H1 t size es es.length p H' ∧ rawPut b H' H3 := by
  rcases Own.inv h2 with ⟨rfl, rfl, rfl⟩ | ⟨g, c, rfl, a, rfl⟩
  · exact ⟨_, Own.nil rfl, h1⟩
  · obtain ⟨H', k1, k2⟩ := raw_swap (c := (g, .row t size es c)) h1 ⟨a, rfl⟩
    obtain ⟨k1, rfl⟩ := k1
    exact ⟨_, Own.row g c k1 rfl, k2⟩
theorem own_raw {b : Nat × AObj} {H1 H2 H3 : Heap} {t size : Nat} {p : Option (Nat × Nat)} {es : List (List AV)} (h1 : Own H1 t size es es.length p H2) (h2 : rawPut b H2 H3) : ∃ H', rawPut b H1 H' ∧ Own H' t size es es.length p H3 := by
  rcases Own.inv h1 with ⟨rfl, rfl, rfl⟩ | ⟨g, c, rfl, a, rfl⟩
  · exact ⟨_, h2, Own.nil rfl⟩
  · obtain ⟨H', k1, k2, rfl⟩ := raw_swap (b := (g, .row t size es c)) ⟨a, rfl⟩ h2
    exact ⟨H', k1, Own.row g c k2 rfl⟩
theorem many_a {X : Heap → Heap → Prop} (hx : ∀ b H1 H2 H3, rawPut b H1 H2 → X H2 H3 → ∃ H', X H1 H' ∧ rawPut b H' H3) : ∀ (bs : List (Nat × AObj)) {H1 H2 H3 : Heap}, manyPut bs H1 H2 → X H2 H3 → ∃ H', X H1 H' ∧ manyPut bs H' H3
  | [], H1, H2, H3, h1, h2 => by rw [show H2 = H1 from h1] at h2; exact ⟨H3, h2, rfl⟩
  | b :: bs, H1, H2, H3, ⟨Ha, h1, h1'⟩, h2 => by
    obtain ⟨Hb, k1, k2⟩ := hx b _ _ _ h1' h2
    obtain ⟨Hc, k3, k4⟩ := many_a hx bs h1 k1
    exact ⟨Hc, k3, Hb, k4, k2⟩
theorem many_b {X : Heap → Heap → Prop} (hx : ∀ b H1 H2 H3, X H1 H2 → rawPut b H2 H3 → ∃ H', rawPut b H1 H' ∧ X H' H3) : ∀ (bs : List (Nat × AObj)) {H1 H2 H3 : Heap}, X H1 H2 → manyPut bs H2 H3 → ∃ H', manyPut bs H1 H' ∧ X H' H3
  | [], H1, H2, H3, h1, h2 => by rw [← show H3 = H2 from h2] at h1; exact ⟨H1, rfl, h1⟩
  | b :: bs, H1, H2, H3, h1, ⟨Ha, h2, h2'⟩ => by
    obtain ⟨Hb, k1, k2⟩ := many_b hx bs h1 h2
    obtain ⟨Hc, k3, k4⟩ := hx b _ _ _ k2 h2'
    exact ⟨Hc, ⟨Hb, k1, k3⟩, k4⟩
theorem Res.swap0 (s1 : r1.simple = true) (s2 : r2.simple = true) (h1 : r1.put H1 H2) (h2 : r2.put H2 H3) : ∃ H', r2.put H1 H' ∧ r1.put H' H3 := by
  have set2 : ∀ {g g' : Nat} {o : AObj}, (H1.set g o) g' = none → g' ≠ g ∧ H1 g' = none := fun {g g' o} h => by
    have hne : g' ≠ g := by rintro rfl; rw [Heap.set_same] at h; cases h
    exact ⟨hne, by rw [Heap.set_ne _ _ hne] at h; exact h⟩
  cases r1 with
  | bld => cases s1
  | many p =>
    obtain ⟨bs, hp, h1⟩ := h1
    cases r2 with
    | bld => cases s2
    | cell g t cs =>
      obtain ⟨H', k1, k2⟩ := many_a (X := rawPut (g, .cells t cs)) (fun b H1 H2 H3 h k => raw_swap h k) bs h1 h2
      exact ⟨H', k1, bs, hp, k2⟩
    | own t size p es =>
      obtain ⟨H', k1, k2⟩ := many_a (X := fun H1 H => Own H1 t size es es.length p H) (fun b H1 H2 H3 h k => raw_own h k) bs h1 h2
      exact ⟨H', k1, bs, hp, k2⟩
    | many p2 =>
      obtain ⟨bs2, hp2, h2⟩ := h2
      obtain ⟨H', k1, k2⟩ := many_a (X := manyPut bs2) (fun b H1 H2 H3 h k => many_b (X := rawPut b) (fun c H1 H2 H3 h k => raw_swap h k) bs2 h k) bs h1 h2
      exact ⟨H', ⟨bs2, hp2, k1⟩, bs, hp, k2⟩
  | cell g t cs =>
    have h1r : rawPut (g, .cells t cs) H1 H2 := h1
    obtain ⟨a1, rfl⟩ := h1
    cases r2 with
    | bld => cases s2
    | many p2 =>
      obtain ⟨bs2, hp2, h2⟩ := h2
      obtain ⟨H', k1, k2⟩ := many_b (X := rawPut (g, .cells t cs)) (fun c H1 H2 H3 h k => raw_swap h k) bs2 h1r h2
      exact ⟨H', ⟨bs2, hp2, k1⟩, k2⟩
    | cell g' t' cs' =>
      obtain ⟨a2, rfl⟩ := h2
      obtain ⟨hne, a3⟩ := set2 a2
      exact ⟨_, ⟨a3, rfl⟩, by rw [Heap.set_ne _ _ (Ne.symm hne)]; exact a1, Heap.set_comm (Ne.symm hne) _ _⟩
    | own t' size p es =>
      rcases Own.inv h2 with ⟨rfl, rfl, rfl⟩ | ⟨g', c, rfl, a2, rfl⟩
      · exact ⟨_, Own.nil rfl, a1, rfl⟩
      · obtain ⟨hne, a3⟩ := set2 a2
        exact ⟨_, Own.row g' c a3 rfl, by rw [Heap.set_ne _ _ (Ne.symm hne)]; exact a1, Heap.set_comm (Ne.symm hne) _ _⟩
  | own t size p es =>
    rcases Own.inv h1 with ⟨rfl, rfl, rfl⟩ | ⟨g, c, rfl, a1, rfl⟩
    · exact ⟨_, h2, Own.nil rfl⟩
    · cases r2 with
      | bld => cases s2
      | many p2 =>
        obtain ⟨bs2, hp2, h2⟩ := h2
        obtain ⟨H', k1, k2⟩ := many_b (X := fun H1 H => Own H1 t size es es.length (some (g, c)) H) (fun c H1 H2 H3 h k => own_raw h k) bs2 (Own.row g c a1 rfl) h2
        exact ⟨H', ⟨bs2, hp2, k1⟩, k2⟩
      | cell g' t' cs' =>
        obtain ⟨a2, rfl⟩ := h2
        obtain ⟨hne, a3⟩ := set2 a2
        refine ⟨_, ⟨a3, rfl⟩, ?_⟩
        rw [Heap.set_comm (Ne.symm hne)]
        exact Own.row g c (by rw [Heap.set_ne _ _ (Ne.symm hne)]; exact a1) rfl
      | own t' size' p' es' =>
        rcases Own.inv h2 with ⟨rfl, rfl, rfl⟩ | ⟨g', c', rfl, a2, rfl⟩
        · exact ⟨_, Own.nil rfl, Own.row g c a1 rfl⟩
        · obtain ⟨hne, a3⟩ := set2 a2
          refine ⟨_, Own.row g' c' a3 rfl, ?_⟩
          rw [Heap.set_comm (Ne.symm hne)]
          exact Own.row g c (by rw [Heap.set_ne _ _ (Ne.symm hne)]; exact a1) rfl
theorem Res.swap1 (s2 : r2.simple = true) (h1 : r1.put H1 H2) (h2 : r2.put H2 H3) : ∃ H', r2.put H1 H' ∧ r1.put H' H3 := by
  cases r1 with
  | cell g t cs => exact Res.swap0 rfl s2 h1 h2
  | own t size p es => exact Res.swap0 rfl s2 h1 h2
  | many p => exact Res.swap0 rfl s2 h1 h2
  | bld g t et bs =>
    obtain ⟨p, a, Hx, k1, k2, k3⟩ := h1
    obtain ⟨Hy, m1, m2⟩ := Res.swap0 (r1 := .cell g t [a, .own (bs.map encB).length p]) rfl s2 k2 h2
    obtain ⟨Hz, n1, n2⟩ := Res.swap0 (r1 := .own et 1 p (bs.map encB)) rfl s2 k1 m1
    exact ⟨Hz, n1, p, a, Hy, n2, m2, k3⟩
theorem Res.swap (h1 : r1.put H1 H2) (h2 : r2.put H2 H3) : ∃ H', r2.put H1 H' ∧ r1.put H' H3 := by
  cases r2 with
  | cell g t cs => exact Res.swap1 rfl h1 h2
  | own t size p es => exact Res.swap1 rfl h1 h2
  | many p => exact Res.swap1 rfl h1 h2
  | bld g t et bs =>
    obtain ⟨p, a, Hx, k1, k2, k3⟩ := h2
    obtain ⟨Hy, m1, m2⟩ := Res.swap1 (r2 := .own et 1 p (bs.map encB)) rfl h1 k1
    obtain ⟨Hz, n1, n2⟩ := Res.swap1 (r2 := .cell g t [a, .own (bs.map encB).length p]) rfl m2 k2
    exact ⟨Hz, ⟨p, a, Hy, m1, n1, k3⟩, n2⟩
/-- one thing by itself: what lies beside it, and what becomes of all if it becomes another one -/
theorem Holds.at_ : ∀ {rs : List Res} {i : Nat} {H : Heap}, Holds H0 rs H → rs[i]? = some r → ∃ H1, r.put H1 H ∧ H0.le H1 ∧ Holds H0 (rs.eraseIdx i) H1 ∧ ∀ r' H', r'.put H1 H' → Holds H0 (rs.set i r') H'
  | [], i, H, h, hi => by simp at hi
  | r0 :: rs, 0, H, ⟨H1, h1, h2⟩, hi => by
    simp at hi; subst hi
    exact ⟨H1, h2, h1.le, h1, fun r' H' h' => ⟨H1, h1, h'⟩⟩
  | r0 :: rs, i + 1, H, ⟨H2, h1, h2⟩, hi => by
    obtain ⟨H3, k1, k2, k3, k4⟩ := Holds.at_ (i := i) h1 (by simpa using hi)
    obtain ⟨H4, m1, m2⟩ := Res.swap k1 h2
    exact ⟨H4, m2, Heap.le_trans k2 m1.le, ⟨H3, k3, m1⟩, fun r' H' h' => by
      obtain ⟨X, x1, x2⟩ := Res.swap m1 h'
      exact ⟨X, k4 r' X x1, x2⟩⟩
theorem Holds.one (h : r.put H1 H) : Holds H1 [r] H := ⟨H1, rfl, h⟩
theorem Holds.one_inv (h : Holds H1 [r] H) : r.put H1 H := by obtain ⟨X, rfl, h⟩ := h; exact h
theorem Holds.cell {i g t : Nat} {cs : List AV} (h : Holds H0 rs H) (hi : rs[i]? = some (.cell g t cs)) : H g = some (.cells t cs) := by
  obtain ⟨H1, ⟨_, rfl⟩, _⟩ := h.at_ hi
  exact Heap.set_same _ _ _
theorem Holds.row {i g c t size : Nat} {es : List (List AV)} (h : Holds H0 rs H) (hi : rs[i]? = some (.own t size (some (g, c)) es)) : H g = some (.row t size es c) := by
  obtain ⟨H1, k, _⟩ := h.at_ hi
  rcases Own.inv k with ⟨h1, _⟩ | ⟨g', c', h1, h2, rfl⟩
  · cases h1
  · injection h1 with h1; injection h1 with h1 h3; subst h1; subst h3
    exact Heap.set_same _ _ _
theorem Holds.grown {i t size : Nat} {p : Option (Nat × Nat)} {es : List (List AV)} (h : Holds H0 rs H) (hi : rs[i]? = some (.own t size p es)) (hne : es ≠ []) : ∃ g c, p = some (g, c) := by
  obtain ⟨H1, k, _⟩ := h.at_ hi
  rcases Own.inv k with ⟨_, h1, _⟩ | ⟨g', c', h1, _⟩
  · exact (hne h1).elim
  · exact ⟨g', c', h1⟩
theorem Holds.src {i t size : Nat} {p : Option (Nat × Nat)} {es : List (List AV)} (h : Holds H0 rs H) (hi : rs[i]? = some (.own t size p es)) : Src H size (.own es.length p) es := by
  obtain ⟨H1, k, _⟩ := h.at_ hi
  exact Own.src (t := t) k
/-- a slice that is nil yet -/
theorem Holds.nil (t size : Nat) (h : Holds H0 rs H) : Holds H0 (.own t size none [] :: rs) H := ⟨H, h, Own.nil rfl⟩
theorem Holds.new {g t : Nat} {cs : List AV} (h : Holds H0 rs H) (hg : H g = none) : Holds H0 (.cell g t cs :: rs) (H.set g (.cells t cs)) := ⟨H, h, hg, rfl⟩
theorem Holds.newRow {g c t size : Nat} {es : List (List AV)} (h : Holds H0 rs H) (hg : H g = none) : Holds H0 (.own t size (some (g, c)) es :: rs) (H.set g (.row t size es c)) := ⟨H, h, Own.row g c hg rfl⟩
/-- what came in by a pointer -/
theorem Holds.of_cell {g t : Nat} {cs : List AV} (h : H g = some (.cells t cs)) : Holds (H.del g) [.cell g t cs] H := ⟨_, rfl, by simp [Heap.del], by
  funext k; simp only [Heap.set, Heap.del]; split
  · rename_i e; rw [e, h]
  · rfl⟩
end

section rules
variable {P : Program} {o : Oper} {env : Env} {H H0 : Heap} {K : AV → Heap → Prop} {E : List PanicEntry → Heap → Prop} {rs : List Res}
/-- one more, or some more, for a slice that grows -/
theorem WpO.pushT {α : Type} (cT : α → List AV) (l xs : List α) {x y : Operand} {t e : TypeId} {size bytes i : Nat} {p : Option (Nat × Nat)} {src : AV} (ho : o.op = .call { callee := .builtin .append, args := #[x, y], argTypes := #[t, t] }) (ek : ElemOk P t e size bytes)
    (hh : Holds H0 rs H) (hi : rs[i]? = some (.own e size p (l.map cT))) (hx : env.ev x = .own (l.map cT).length p) (hy : env.ev y = src) (hs : Src H size src (xs.map cT)) (h1 : ∀ x ∈ xs, (cT x).all AV.one = true) (hne : xs ≠ []) (hb : (l.length + xs.length) * bytes ≤ 140737488355328) (hb1 : 1 ≤ bytes)
    (hk : ∀ p' H', Holds H0 (rs.set i (.own e size p' ((l ++ xs).map cT))) H' → K (.own ((l ++ xs).map cT).length p') H') : WpO P o env H K E := by
  obtain ⟨H1, k1, k2, k3, k4⟩ := hh.at_ hi
  have h63 : l.length + xs.length ≤ 140737488355328 := Nat.le_trans (Nat.le_mul_of_pos_right _ hb1) hb
  refine WpO.push (es := xs.map cT) ho ek hx k1 hy hs (fun e he => by obtain ⟨x, hx, rfl⟩ := List.mem_map.1 he; exact h1 x hx) (by simpa using hne) (by simpa using h63) (by simpa using hb) fun p' H' own' => ?_
  have e1 : l.map cT ++ xs.map cT = (l ++ xs).map cT := by simp
  have e2 : (l.map cT).length + (xs.map cT).length = ((l ++ xs).map cT).length := by simp
  rw [e1, e2] at own'
  rw [e2]
  exact hk p' H' (k4 _ H' own')
/-- a cell that is owned is written -/
theorem WpO.putT {t ty : TypeId} {x y : Operand} {g off i : Nat} {cs cs' : List AV} {v : AV} (ho : o.op = .store t x y) (hx : env.ev x = .lit (.pointer (some ⟨g, off, none⟩))) (hh : Holds H0 rs H) (hi : rs[i]? = some (.cell g ty cs)) (hy : forceA (env.ev y) some = some v)
    (h1 : (cellsA v).all AV.one = true) (hs : P.cellsOf t = (cellsA v).length) (hz : Nat.ble 1 (cellsA v).length = true) (hfit : Nat.ble (off + (cellsA v).length) cs.length = true) (hc : forceL (spliceA cs off (cellsA v)) some = some cs') (hk : ∀ H', Holds H0 (rs.set i (.cell g ty cs')) H' → K (.lit undef) H') : WpO P o env H K E := by
  obtain ⟨H1, ⟨k1, rfl⟩, k2, k3, k4⟩ := hh.at_ hi
  refine WpO.put ho hx (Heap.set_same _ _ _) hy h1 hs hz hfit hc ?_
  rw [Heap.set_set]
  exact hk _ (k4 _ _ ⟨k1, rfl⟩)
theorem WpO.allocT {t : TypeId} {z : List AV} (ho : o.op = .alloc t) (hz : zeroA P t = some z) (hh : Holds H0 rs H) (hk : ∀ g H', Holds H0 (.cell g t z :: rs) H' → K (.lit (.pointer (some ⟨g, 0, none⟩))) H') : WpO P o env H K E :=
  WpO.alloc ho hz fun g hg => hk g _ (hh.new hg)
theorem WpO.boxT {t : TypeId} {x : Operand} {v : AV} (ho : o.op = .box t x) (hx : env.ev x = v) (hh : Holds H0 rs H) (hk : ∀ g H', Holds H0 (.cell g t (cellsA v) :: rs) H' → K (.lit (.pointer (some ⟨g, 0, none⟩))) H') : WpO P o env H K E :=
  WpO.box ho hx fun g hg => hk g _ (hh.new hg)
/-- a call that works at one thing of those that are owned -/
theorem WpO.callT {f : FuncId} {args : Array Operand} {ts : Array TypeId} {xs : List AV} {i : Nat} {r r' : Res} {v : AV} (ho : o.op = .call { callee := .value (.func f), args := args, argTypes := ts }) (he : enterable P f = true) (hx : forceL (args.toList.map env.ev) some = some xs) (hh : Holds H0 rs H) (hi : rs[i]? = some r)
    (h : ∀ H1, H0.le H1 → Holds H1 [r] H → TCall P f xs H (fun u H' => u = v ∧ Holds H1 [r'] H') noE) (hk : ∀ H', Holds H0 (rs.set i r') H' → K v H') : WpO P o env H K E := by
  obtain ⟨H1, k1, k2, k3, k4⟩ := hh.at_ hi
  refine WpO.call ho he hx ((h H1 k2 (.one k1)).mono ?_ (fun _ _ h => h.elim))
  rintro _ H' ⟨rfl, h'⟩
  exact hk H' (k4 _ _ h'.one_inv)
end rules

section code
variable {P : Program} {N : Nat} {c : Code} {env : Env} {H H0 : Heap} {Q : QC} {rs : List Res}
/-- a slice that grows no more is a list -/
theorem WpC.freeze {t ty size i : Nat} {p : Option (Nat × Nat)} {es : List (List AV)} (h : Holds H0 rs H) (hi : rs[i]? = some (.own ty size p es)) (ht : env t = .own es.length p) (k : ∀ H', Holds H0 (rs.eraseIdx i) H' → WpC P N c (env.put (some t) (.rows size es)) H' Q) : WpC P N c env H Q := by
  obtain ⟨H1, k1, k2, k3, k4⟩ := h.at_ hi
  refine WpC.up (t := t) (u := .rows size es) (H' := H1) ?_ (k H1 k3)
  rw [ht]
  exact Own.up k1
/-- what is not wanted any more -/
theorem WpC.lose {i : Nat} {r : Res} (h : Holds H0 rs H) (hi : rs[i]? = some r) (k : ∀ H', Holds H0 (rs.eraseIdx i) H' → WpC P N c env H' Q) : WpC P N c env H Q := by
  obtain ⟨H1, k1, k2, k3, k4⟩ := h.at_ hi
  exact WpC.drop k1.le (k H1 k3)
/-- a value told anew: nil is a list -/
def Sub (x y : AV) : Prop := ∀ w D u, VR w D x u → VR w D y u
theorem Sub.refl (x : AV) : Sub x x := fun _ _ _ h => h
theorem Sub.nil (size : Nat) : Sub (.own 0 none) (.rows size []) := fun w D u h => by obtain ⟨_, rfl⟩ := h.nil_inv; exact .rows0
inductive Subs : List AV → List AV → Prop
  | nil : Subs [] []
  | cons {x y : AV} {xs ys : List AV} (h : Sub x y) (hs : Subs xs ys) : Subs (x :: xs) (y :: ys)
theorem Subs.refl : ∀ xs, Subs xs xs
  | [] => .nil
  | x :: xs => .cons (.refl x) (Subs.refl xs)
theorem Subs.vrs {w : World} {D : Nat → Prop} {xs ys : List AV} (h : Subs xs ys) : ∀ {us : List Value}, VRs w D xs us → VRs w D ys us := by
  induction h with
  | nil => exact fun h => h
  | cons h hs ih => intro us hv; obtain ⟨u, us', rfl, h1, h2⟩ := hv.cons_inv; exact .cons (h _ _ _ h1) (ih h2)
theorem Sub.agg {xs ys : List AV} (h : Subs xs ys) : Sub (.agg xs) (.agg ys) := fun w D u hv => by
  obtain ⟨us, rfl, h1⟩ := hv.agg_inv
  have := h.vrs h1
  exact .agg us this.1 this.2
theorem Sub.tup {xs ys : List AV} (h : Subs xs ys) : Sub (.tup xs) (.tup ys) := fun w D u hv => by
  obtain ⟨us, rfl, h1⟩ := hv.tup_inv
  have := h.vrs h1
  exact .tup us this.1 this.2
theorem WpC.sub {t : Nat} {u : AV} (hs : Sub (env t) u) (k : WpC P N c (env.put (some t) u) H Q) : WpC P N c env H Q :=
  WpC.up (H' := H) ⟨Heap.le_refl _, fun w x _ h => hs _ _ _ h⟩ k
theorem TCall.sub {f : FuncId} {args : List AV} {K : AV → Heap → Prop} {E : List PanicEntry → Heap → Prop} (h : TCall P f args H (fun v H' => ∃ u, Sub v u ∧ K u H') E) : TCall P f args H K E :=
  TCall.up (h.mono (fun v H' ⟨u, h1, h2⟩ => ⟨u, H', ⟨Heap.le_refl _, fun w x _ h => h1 _ _ _ h⟩, h2⟩) (fun _ _ h => h))
theorem TCall.args {f : FuncId} {args args' : List AV} {K : AV → Heap → Prop} {E : List PanicEntry → Heap → Prop} (hs : Subs args args') (h : TCall P f args' H K E) : TCall P f args H K E :=
  fun us w hv hh => h us w (hs.vrs hv) hh

/-- a loop that runs till it is done -/
theorem WpC.loopS {σ ρ α : Type} (f : σ → Option (Sh.Step σ ρ)) (L : σ → α → List (Nat × AV)) (J : σ → α → Heap → Prop) (o : ρ) (s0 : σ) (a0 : α) (h : Sh.loopS f s0 = some o) (hk : knows env (L s0 a0)) (hj : J s0 a0 H)
    (body : ∀ s a st env H, f s = some st → (∀ x, st = .done x → x = o) → J s a H → WpC P N c (Env.of (L s a) env) H (thenQ (fun env' H' => ∃ s' a', st = .next s' ∧ knows env' (L s' a') ∧ J s' a' H') Q)) : WpC P N (.loop c) env H Q := by
  have key : ∀ n s, Sh.iterS f n s = some o → ∀ a env H, knows env (L s a) → J s a H → WpC P N (.loop c) env H Q := by
    intro n s hn a env H hk hj
    refine WpC.loop (fun n env H => ∃ s a, Sh.iterS f n s = some o ∧ knows env (L s a) ∧ J s a H) n ⟨s, a, hn, hk, hj⟩ ?_
    rintro n env H ⟨s, a, hn, hk, hj⟩
    cases n with
    | zero => cases hn
    | succ n =>
      unfold Sh.iterS at hn
      cases hf : f s with
      | none => rw [hf] at hn; cases hn
      | some st =>
        rw [hf] at hn
        rw [← hk.eq]
        refine (body s a st env H hf (fun x hx => by subst hx; simp only [Option.some.injEq] at hn; exact hn) hj).mono ?_
        intro e env2 H2 q
        cases e with
        | normal =>
          obtain ⟨s', a', rfl, h1, h2⟩ := q
          exact ⟨n, Nat.lt_succ_self n, s', a', hn, h1, h2⟩
        | exit id => exact q
        | goto l => exact q
        | ret => exact q
        | panic ch => exact q
        | outgrown => exact q
  exact key _ s0 h a0 env H hk hj
end code
end Go.Vc
