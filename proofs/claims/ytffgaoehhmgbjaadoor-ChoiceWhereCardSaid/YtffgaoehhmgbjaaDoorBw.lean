/-
  Arenas as one thing owned: what the functions of package bdd do to them, exactly. Printed by a tool.
-/
import Derived.Test.YtffgaoehhmgbjaaDoorBa
import Derived.Test.YtffgaoehhmgbjaaDoorEx
import Derived.Test.YtffgaoehhmgbjaaDoorPe
set_option linter.unusedVariables false
set_option linter.unusedSimpArgs false
set_option maxRecDepth 100000
set_option maxHeartbeats 8000000
namespace Go.Proofs.YtffgaoehhmgbjaaDoor
open Go Go.Vc Go.Vc.Bdd Go.Sh
attribute [local irreducible] WpC WpOps WpPi WpO Exact TCall VEnds
abbrev aP (g : Nat) : AV := .lit (.pointer (some ⟨g, 0, none⟩))
/-- the three blocks of an arena -/
def arP (g : Nat) (A : GArena) : List (Nat × AObj) → Prop := fun bs => ∃ ga c gm es, bs = [(g, .cells 62 [.lit (.int .i64 (A.v : Int)), .own A.ds.length (some (ga, c)), .lit (.map (some gm))]), (gm, .map es), (ga, .row 58 3 (A.ds.map Arena.encD) c)] ∧ keysOk Tryd.prog 58 es ∧ (∀ d, mget es (Arena.keyD d) = (find A.ds d).map fun n => .lit (.int .i64 (n : Int))) ∧ WF A.v A.ds
theorem arena_open {H1 H : Heap} {g : Nat} {A : GArena} (h : Holds H1 [.many (arP g A)] H) : ∃ ga c gm es, Arena.InA H A.v A.ds g ga c gm es ∧ H1 g = none ∧ H1 ga = none ∧ H1 gm = none ∧ ∀ k, k ≠ g → k ≠ ga → k ≠ gm → H k = H1 k := by
  obtain ⟨H0, rfl, bs, ⟨ga, c, gm, es, rfl, h1, h2, h3⟩, Ha, ⟨Hb, ⟨Hc, e, k1, rfl⟩, k2, rfl⟩, k3, rfl⟩ := h
  have e : Hc = H0 := e
  subst e
  dsimp only at k1 k2 k3 ⊢
  have n1 : gm ≠ ga := by rintro rfl; rw [Heap.set_same] at k2; cases k2
  rw [Heap.set_ne _ _ n1] at k2
  have n2 : g ≠ gm := by rintro rfl; rw [Heap.set_same] at k3; cases k3
  rw [Heap.set_ne _ _ n2] at k3
  have n3 : g ≠ ga := by rintro rfl; rw [Heap.set_same] at k3; cases k3
  rw [Heap.set_ne _ _ n3] at k3
  refine ⟨ga, c, gm, es, ⟨Heap.set_same _ _ _, ?_, ?_, h1, h2, h3⟩, k3, k1, k2, fun k a1 a2 a3 => ?_⟩
  · rw [Heap.set_ne _ _ (Ne.symm n3), Heap.set_ne _ _ (Ne.symm n1), Heap.set_same]
  · rw [Heap.set_ne _ _ (Ne.symm n2), Heap.set_same]
  · rw [Heap.set_ne _ _ a1, Heap.set_ne _ _ a3, Heap.set_ne _ _ a2]
theorem arena_put {H1 H : Heap} {g ga c gm v : Nat} {ds : List Dec} {es : List (Value × AV)} (a : Arena.InA H v ds g ga c gm es) (h1 : H1 g = none) (h2 : H1 ga = none) (h3 : H1 gm = none) (hle : H1.le H) : ∃ H', H'.le H ∧ ∃ bs, arP g ⟨v, ds⟩ bs ∧ manyPut bs H1 H' := by
  have n1 := a.ne1; have n2 := a.ne2; have n3 := a.ne3
  refine ⟨((H1.set ga (.row 58 3 (ds.map Arena.encD) c)).set gm (.map es)).set g (.cells 62 [.lit (.int .i64 (v : Int)), .own ds.length (some (ga, c)), .lit (.map (some gm))]), fun k o hk => ?_, _, ⟨ga, c, gm, es, rfl, a.keys, a.known, a.wf⟩, _, ⟨_, ⟨_, rfl, h2, rfl⟩, by show (H1.set ga _) gm = none; rw [Heap.set_ne _ _ (Ne.symm n3)]; exact h3, rfl⟩, by show ((H1.set ga _).set gm _) g = none; rw [Heap.set_ne _ _ n2, Heap.set_ne _ _ n1]; exact h1, rfl⟩
  by_cases e1 : k = g
  · subst e1; rw [Heap.set_same] at hk; injection hk with hk; subst hk; exact a.box
  rw [Heap.set_ne _ _ e1] at hk
  by_cases e2 : k = gm
  · subst e2; rw [Heap.set_same] at hk; injection hk with hk; subst hk; exact a.map
  rw [Heap.set_ne _ _ e2] at hk
  by_cases e3 : k = ga
  · subst e3; rw [Heap.set_same] at hk; injection hk with hk; subst hk; exact a.row
  rw [Heap.set_ne _ _ e3] at hk
  exact hle k o hk
theorem arena_close {H1 H H' : Heap} {g ga c gm v v' ga' c' : Nat} {ds ds' : List Dec} {es es' : List (Value × AV)} (a : Arena.InA H v ds g ga c gm es) (h1 : H1 g = none) (h2 : H1 ga = none) (h3 : H1 gm = none) (hk : ∀ k, k ≠ g → k ≠ ga → k ≠ gm → H k = H1 k)
    (a' : Arena.InA H' v' ds' g ga' c' gm es') (kept : Arena.Kept (Arena.SA g gm) H ga ga' H') : ∃ H'', H''.le H' ∧ Holds H1 [.many (arP g ⟨v', ds'⟩)] H'' := by
  have hne : ∀ k o, H1 k = some o → k ≠ g ∧ k ≠ ga ∧ k ≠ gm := fun k o h => ⟨fun e => (by rw [e, h1] at h; cases h), fun e => (by rw [e, h2] at h; cases h), fun e => (by rw [e, h3] at h; cases h)⟩
  have hle : H1.le H' := fun k o h => by
    obtain ⟨n1, n2, n3⟩ := hne k o h
    refine kept.keep k o ((hk k n1 n2 n3).trans h) n2 fun hS => ?_
    rcases hS with e | e
    · exact n1 e
    · exact n3 e
  have hga : H1 ga' = none := by
    rcases kept.fresh with e | e
    · rw [e]; exact h2
    · cases hh : H1 ga' with
      | none => rfl
      | some o =>
        obtain ⟨n1, n2, n3⟩ := hne _ _ hh
        rw [hk _ n1 n2 n3, hh] at e; cases e
  obtain ⟨H'', q1, bs, q2, q3⟩ := arena_put a' h1 hga h3 hle
  exact ⟨H'', q1, H1, rfl, bs, q2, q3⟩
theorem bothG_some {rl : Nat → Nat → Option Nat} {A : GArena} {n m r : Nat} {ds' : List Dec} (h : Arena.BothR rl A.v A.ds n m r ds') : bothG rl A n m = some (r, ⟨A.v, ds'⟩) := by
  obtain ⟨f', h⟩ := h
  unfold bothG
  rw [h]; rfl
section
variable {H0 H : Heap} {g : Nat} {A : GArena}
theorem w_bdd_Vars (hH : Holds H0 [.many (arP g A)] H) {r : Int × GArena} (h : Sh.bdd_Vars A = some r) : TCall Tryd.prog 24 [aP g] H (fun v H' => v = iA r.1 ∧ Holds H0 [.many (arP g r.2)] H') noE := by
  obtain rfl := Sh.some_inj h
  obtain ⟨ga, c, gm, es, a, _⟩ := arena_open hH
  exact (Arena.bdd_Vars a).mono (fun x H' ⟨e1, e2⟩ => by rw [e1, e2]; exact ⟨rfl, hH⟩) (fun _ _ h => h)
theorem w_bdd_Holds (hH : Holds H0 [.many (arP g A)] H) {n set : Int} {r : (Bool × Int) × GArena} (h : Sh.bdd_Holds A n set = some r) : TCall Tryd.prog 23 [aP g, iA n, iA set] H (fun v H' => v = .tup [bA r.1.1, iA r.1.2] ∧ Holds H0 [.many (arP g r.2)] H') noE := by
  obtain ⟨⟨hv, hl, hn, hs0, hs1⟩, h⟩ := Sh.chk_some h
  obtain rfl := Sh.some_inj h
  obtain ⟨ga, c, gm, es, a, _⟩ := arena_open hH
  refine (Arena.bdd_Holds a hv n set (by omega)).mono (fun x H' ⟨e1, e2⟩ => ?_) (fun _ _ h => h)
  rw [e1, e2]
  refine ⟨?_, hH⟩
  unfold Arena.holdsOf
  rw [if_pos (show 0 ≤ n ∧ n < (A.ds.length : Int) from hn), if_pos ⟨hs0, hs1⟩]; rfl
theorem w_bdd_And (hH : Holds H0 [.many (arP g A)] H) {n m : Int} {r : (Int × Int) × GArena} (h : Sh.bdd_And A n m = some r) : TCall Tryd.prog 19 [aP g, iA n, iA m] H (fun v H' => v = .tup [iA r.1.1, iA r.1.2] ∧ Holds H0 [.many (arP g r.2)] H') noE := by
  obtain ⟨⟨hv, hl, ⟨n0, n1⟩, ⟨m0, m1⟩⟩, h⟩ := Sh.chk_some h
  obtain ⟨p, hp, h⟩ := Sh.bind_some h
  obtain rfl := Sh.some_inj h
  obtain ⟨ga, c, gm, es, a, h1, h2, h3, hk⟩ := arena_open hH
  obtain ⟨n, rfl⟩ := Int.eq_ofNat_of_zero_le n0
  obtain ⟨m, rfl⟩ := Int.eq_ofNat_of_zero_le m0
  refine TCall.up ((Arena.bdd_And a hv (n := n) (m := m) (by omega) (by omega) (by omega)).mono ?_ (fun _ _ h => h))
  rintro _ H' ⟨r, ds', ga', c', es', rfl, a', x', lt, hs, len, kept, wk⟩
  obtain ⟨H'', hle, hh⟩ := arena_close a h1 h2 h3 hk a' kept
  have e := bothG_some wk
  have e2 : p = (r, ⟨A.v, ds'⟩) := Sh.some_inj (hp.symm.trans e)
  subst e2
  exact ⟨_, H'', Up.drop hle _, rfl, hh⟩
theorem w_bdd_Or (hH : Holds H0 [.many (arP g A)] H) {n m : Int} {r : (Int × Int) × GArena} (h : Sh.bdd_Or A n m = some r) : TCall Tryd.prog 18 [aP g, iA n, iA m] H (fun v H' => v = .tup [iA r.1.1, iA r.1.2] ∧ Holds H0 [.many (arP g r.2)] H') noE := by
  obtain ⟨⟨hv, hl, ⟨n0, n1⟩, ⟨m0, m1⟩⟩, h⟩ := Sh.chk_some h
  obtain ⟨p, hp, h⟩ := Sh.bind_some h
  obtain ⟨q, hq, h⟩ := Sh.bind_some h
  obtain ⟨s, hs, h⟩ := Sh.bind_some h
  obtain rfl := Sh.some_inj h
  obtain ⟨ga, c, gm, es, a, h1, h2, h3, hk⟩ := arena_open hH
  obtain ⟨n, rfl⟩ := Int.eq_ofNat_of_zero_le n0
  obtain ⟨m, rfl⟩ := Int.eq_ofNat_of_zero_le m0
  refine TCall.up ((Arena.bdd_Or a hv (n := n) (m := m) (by omega) (by omega) (by omega)).mono ?_ (fun _ _ h => h))
  rintro _ H' ⟨r, ds', ga', c', es', rfl, a', x', lt, hsm, len, kept, r1, d1, r2, d2, wk1, wk2, wk3⟩
  obtain ⟨H'', hle, hh⟩ := arena_close a h1 h2 h3 hk a' kept
  have e2 : p = (r1, ⟨A.v, d1⟩) := Sh.some_inj (hp.symm.trans (bothG_some wk1))
  subst e2
  have e3 : q = (r2, ⟨A.v, d2⟩) := Sh.some_inj (hq.symm.trans (bothG_some (A := ⟨A.v, d1⟩) wk2))
  subst e3
  have e4 : s = (r, ⟨A.v, ds'⟩) := Sh.some_inj (hs.symm.trans (bothG_some (A := ⟨A.v, d2⟩) wk3))
  subst e4
  exact ⟨_, H'', Up.drop hle _, rfl, hh⟩
theorem w_bdd_Not (hH : Holds H0 [.many (arP g A)] H) {n : Int} {r : (Int × Int) × GArena} (h : Sh.bdd_Not A n = some r) : TCall Tryd.prog 41 [aP g, iA n] H (fun v H' => v = .tup [iA r.1.1, iA r.1.2] ∧ Holds H0 [.many (arP g r.2)] H') noE := by
  obtain ⟨⟨hv, hl, ⟨n0, n1⟩⟩, h⟩ := Sh.chk_some h
  obtain ⟨p, hp, h⟩ := Sh.bind_some h
  obtain rfl := Sh.some_inj h
  obtain ⟨ga, c, gm, es, a, h1, h2, h3, hk⟩ := arena_open hH
  obtain ⟨n, rfl⟩ := Int.eq_ofNat_of_zero_le n0
  refine TCall.up ((Arena.bdd_Not a hv (n := n) (by omega) (by omega)).mono ?_ (fun _ _ h => h))
  rintro _ H' ⟨r, ds', ga', c', es', rfl, a', x', lt, hs, len, kept, wk⟩
  obtain ⟨H'', hle, hh⟩ := arena_close a h1 h2 h3 hk a' kept
  have e2 : p = (r, ⟨A.v, ds'⟩) := Sh.some_inj (hp.symm.trans (bothG_some wk))
  subst e2
  exact ⟨_, H'', Up.drop hle _, rfl, hh⟩
theorem w_bdd_Var (hH : Holds H0 [.many (arP g A)] H) {i : Int} {r : (Int × Int) × GArena} (h : Sh.bdd_Var A i = some r) : TCall Tryd.prog 17 [aP g, iA i] H (fun v H' => v = .tup [iA r.1.1, iA r.1.2] ∧ Holds H0 [.many (arP g r.2)] H') noE := by
  obtain ⟨⟨hv, hl, i0, i1⟩, h⟩ := Sh.chk_some h
  obtain rfl := Sh.some_inj h
  obtain ⟨ga, c, gm, es, a, h1, h2, h3, hk⟩ := arena_open hH
  refine TCall.up ((Arena.bdd_Var a (i := i) (by omega)).mono ?_ (fun _ _ h => h))
  intro x H' hq
  rw [if_pos ⟨i0, i1⟩] at hq
  obtain ⟨r, ds', ga', c', es', rfl, a', x', lt, hs, len, kept, wk⟩ := hq
  obtain ⟨H'', hle, hh⟩ := arena_close a h1 h2 h3 hk a' kept
  have e1 : (madeOf A.ds ⟨i.toNat, 0, 1⟩).1 = r := (congrArg Prod.fst wk).symm
  have e2 : (madeOf A.ds ⟨i.toNat, 0, 1⟩).2 = ds' := (congrArg Prod.snd wk).symm
  rw [e1, e2]
  exact ⟨_, H'', Up.drop hle _, rfl, hh⟩
end
theorem w_bdd_New {H : Heap} {v : Int} (hv : 0 ≤ v ∧ v ≤ 8) : TCall Tryd.prog 10 [iA v] H (fun x H' => ∃ g, x = .tup [aP g, iA (0 : Int)] ∧ ∃ bs, arP g (newG v.toNat) bs ∧ manyPut bs H H') noE := by
  refine TCall.up ((Arena.bdd_New (v := v) H).mono ?_ (fun _ _ h => h))
  intro x H' hq
  rw [if_pos hv] at hq
  obtain ⟨g, ga, c, gm, rfl, a, hle, h1, h2, h3⟩ := hq
  obtain ⟨H'', q1, bs, q2, q3⟩ := arena_put a h1 h2 h3 hle
  exact ⟨_, H'', Up.drop q1 _, g, rfl, bs, q2, q3⟩
theorem WpO.callM {P : Program} {o : Oper} {env : Env} {H H0 : Heap} {K : AV → Heap → Prop} {E : List PanicEntry → Heap → Prop} {rs : List Res} {f : FuncId} {args : Array Operand} {ts : Array TypeId} {xs : List AV} {F : Nat → AV} {p : Nat → List (Nat × AObj) → Prop} (ho : o.op = .call { callee := .value (.func f), args := args, argTypes := ts }) (he : enterable P f = true) (hx : forceL (args.toList.map env.ev) some = some xs) (hh : Holds H0 rs H)
    (h : TCall P f xs H (fun v H' => ∃ g, v = F g ∧ ∃ bs, p g bs ∧ manyPut bs H H') noE) (hk : ∀ g H', Holds H0 (.many (p g) :: rs) H' → K (F g) H') : WpO P o env H K E := by
  refine WpO.call ho he hx (h.mono ?_ (fun _ _ h => h.elim))
  rintro _ H' ⟨g, rfl, bs, h1, h2⟩
  exact hk g H' ⟨H, hh, bs, h1, h2⟩
end Go.Proofs.YtffgaoehhmgbjaaDoor
