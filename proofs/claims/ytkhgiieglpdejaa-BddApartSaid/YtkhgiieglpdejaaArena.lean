/-
  What package bdd computes, contract by contract: an arena of decisions in memory, and what is made in it.
-/
import Derived.Test.YtkhgiieglpdejaaRef
import Derived.Test.YtkhgiieglpdejaaBdd
set_option linter.unusedVariables false
set_option linter.unusedSimpArgs false
namespace Go.Proofs.Ytkhgiieglpdejaa
open Go Go.Vc Go.Vc.Bdd
attribute [local irreducible] WpC WpOps WpPi WpO Exact TCall VEnds

abbrev iA (n : Nat) : AV := .lit (.int .i64 n)
def encD (d : Dec) : List AV := [iA d.name, iA d.off, iA d.on]
def keyD (d : Dec) : Value := .agg ⟨[.int .i64 d.name, .int .i64 d.off, .int .i64 d.on]⟩
theorem keyD_ok (d : Dec) : isKey Try.prog 72 (keyD d) = true := by
  have : isKey Try.prog 72 (.agg ⟨[.int .i64 d.name, .int .i64 d.off, .int .i64 d.on]⟩) = true := by rfl
  exact this
theorem keyD_inj {d e : Dec} (h : keyD d = keyD e) : d = e := by
  cases d; cases e
  unfold keyD at h
  simp at h
  obtain ⟨h1, h2, h3⟩ := h
  simp only [Dec.mk.injEq]; omega
abbrev pA (g : Nat) : AV := .lit (.pointer (some ⟨g, 0, none⟩))

/-- an arena in memory -/
structure InA (H : Heap) (v : Nat) (ds : List Dec) (g ga c gm : Nat) (es : List (Value × AV)) : Prop where
  box : H g = some (.cells 69 [iA v, .own ds.length (some (ga, c)), .lit (.map (some gm))])
  row : H ga = some (.row 72 3 (ds.map encD) c)
  map : H gm = some (.map es)
  keys : keysOk Try.prog 72 es
  known : ∀ d, mget es (keyD d) = (find ds d).map fun n => iA n
  wf : WF v ds

theorem InA.ne1 {H : Heap} {v : Nat} {ds : List Dec} {g ga c gm : Nat} {es : List (Value × AV)} (a : InA H v ds g ga c gm es) : g ≠ ga := by rintro rfl; have := a.box; rw [a.row] at this; cases this
theorem InA.ne2 {H : Heap} {v : Nat} {ds : List Dec} {g ga c gm : Nat} {es : List (Value × AV)} (a : InA H v ds g ga c gm es) : g ≠ gm := by rintro rfl; have := a.box; rw [a.map] at this; cases this
theorem InA.ne3 {H : Heap} {v : Nat} {ds : List Dec} {g ga c gm : Nat} {es : List (Value × AV)} (a : InA H v ds g ga c gm es) : ga ≠ gm := by rintro rfl; have := a.row; rw [a.map] at this; cases this
/-- .. behind a block that is new -/
theorem InA.more {H : Heap} {v : Nat} {ds : List Dec} {g ga c gm : Nat} {es : List (Value × AV)} (a : InA H v ds g ga c gm es) {k : Nat} {o : AObj} (hk : H k = none) : InA (H.set k o) v ds g ga c gm es :=
  ⟨Heap.set_old a.box hk, Heap.set_old a.row hk, Heap.set_old a.map hk, a.keys, a.known, a.wf⟩

theorem dec_ek : ElemOk Try.prog 66 72 3 24 := ElemOk.of (by kernel_rfl)
theorem at_dec {ds : List Dec} {n : Nat} {d : Dec} (h : ds[n]? = some d) : (ds.map encD)[n]? = some (encD d) := map_at h

/-- a condition, with a name told -/
def sideOf (d : Dec) (n name : Nat) (on : Bool) : Nat := if d.name ≠ name ∨ n < 2 then n else if on then d.on else d.off

theorem bdd_side {H : Heap} {v : Nat} {ds : List Dec} {g ga c gm : Nat} {es : List (Value × AV)} (a : InA H v ds g ga c gm es) {n name : Nat} {on : Bool} {d : Dec} (hd : ds[n]? = some d) :
    TCall Try.prog 38 [pA g, iA n, iA name, .lit (.bool on)] H (fun x H' => x = iA (sideOf d n name on) ∧ H' = H) noE := by
  have hlt := (List.getElem?_eq_some_iff.1 hd).1
  refine TCall.up (TCall.body Try.func38 rfl rfl ?_)
  refine WpC.seqR (WpOps.ps rfl trivial (WpOps.nil ?_))
  refine WpC.seqR ?_
  refine WpOps.ps rfl trivial ?_
  refine WpOps.consE rfl rfl (Exact.load rfl rfl a.box rfl rfl) ?_
  refine WpOps.ps rfl trivial ?_
  refine WpOps.consE rfl rfl (Exact.indexAddr_buf (size := 3) rfl rfl rfl hlt rfl rfl (by decide)) ?_
  refine WpOps.consE rfl rfl (Exact.load_row (i := n) (f := 0) rfl rfl a.row rfl (by decide) (at_dec hd) rfl) ?_
  refine WpOps.consG rfl rfl (WpO.alloc rfl rfl fun gd hgd => ?_)
  refine WpOps.consG rfl rfl (WpO.init rfl rfl rfl rfl rfl rfl rfl rfl rfl ?_)
  refine WpOps.nil ?_
  refine WpC.seq ?_
  refine WpC.block ?_
  refine WpC.seqR ?_
  refine WpOps.ps rfl trivial ?_
  refine WpOps.consE rfl rfl (Exact.load rfl rfl (Heap.set_same _ _ _) rfl rfl) ?_
  refine WpOps.cutB 7 17 (.lit (.bool (decide (d.name ≠ name ∨ n < 2)))) rfl ?_ ?_
  · refine WpOps.pn 2 rfl trivial ?_
    refine WpOps.split 21 rfl ?_ ?_
    · intro h
      refine WpOps.ps rfl trivial (WpOps.nil ?_)
      have : d.name ≠ name := fun e => by simp [e] at h
      exact ⟨congrArg (fun b => AV.lit (.bool b)) (decide_eq_true (Or.inl this)).symm, rfl⟩
    · intro h
      refine WpOps.ps rfl trivial (WpOps.nil ?_)
      have : d.name = name := by simp at h; omega
      exact ⟨congrArg (fun b => AV.lit (.bool b)) (decide_eq_decide.2 (by show (n : Int) < 2 ↔ _; omega)), rfl⟩
  intro env0
  refine WpOps.nil ?_
  have fin : ∀ {x : Nat}, x = sideOf d n name on → ∃ u H'', Up (H.set gd (.cells 72 (encD d))) (iA x) H'' u ∧ u = iA (sideOf d n name on) ∧ H'' = H := fun {x} e => ⟨_, _, Up.drop (Heap.set_drop hgd _) _, by rw [e], rfl⟩
  refine WpC.condP rfl ?_ ?_
  · intro hc
    refine WpC.seqR (WpOps.ps rfl trivial (WpOps.nil ?_))
    refine WpC.ret ?_
    refine VEnds.ret1 rfl rfl ?_
    exact fin (by unfold sideOf; rw [if_pos hc])
  · intro hc
    refine WpC.seqR (WpOps.ps rfl trivial (WpOps.nil ?_))
    refine WpC.condB rfl ?_ ?_
    · intro ho
      refine WpC.seqR ?_
      refine WpOps.ps rfl trivial ?_
      refine WpOps.consE rfl rfl (Exact.load rfl rfl (Heap.set_same _ _ _) rfl rfl) ?_
      refine WpOps.ps rfl trivial (WpOps.nil ?_)
      refine WpC.ret ?_
      refine VEnds.ret1 rfl rfl ?_
      exact fin (by unfold sideOf; rw [if_neg hc, if_pos ho])
    · intro ho
      refine WpC.skip ?_
      refine WpC.seqR ?_
      refine WpOps.ps rfl trivial ?_
      refine WpOps.consE rfl rfl (Exact.load rfl rfl (Heap.set_same _ _ _) rfl rfl) ?_
      refine WpOps.ps rfl trivial (WpOps.nil ?_)
      refine WpC.ret ?_
      refine VEnds.ret1 rfl rfl ?_
      exact fin (by unfold sideOf; rw [if_neg hc, if_neg (by rw [ho]; decide)])

/-- what a call that makes decisions leaves of the rest; 'S': the blocks that it may write, beyond the row -/
structure Kept (S : Nat → Prop) (H : Heap) (ga ga' : Nat) (H' : Heap) : Prop where
  keep : ∀ k o, H k = some o → k ≠ ga → ¬ S k → H' k = some o
  fresh : ga' = ga ∨ H ga' = none
theorem Kept.refl (S : Nat → Prop) (H : Heap) (ga : Nat) : Kept S H ga ga H := ⟨fun _ _ h _ _ => h, .inl rfl⟩
theorem Kept.trans {S : Nat → Prop} {H H' H'' : Heap} {ga ga' ga'' : Nat} (h : Kept S H ga ga' H') (k : Kept S H' ga' ga'' H'') (hs : ∀ q, S q → ∃ o, H' q = some o) : Kept S H ga ga'' H'' := by
  refine ⟨fun q o hq h2 h1 => k.keep q o (h.keep q o hq h2 h1) (fun e => ?_) h1, ?_⟩
  · rcases h.fresh with e2 | e2
    · exact h2 (e.trans e2)
    · rw [← e, hq] at e2; cases e2
  · rcases k.fresh with e | e
    · rw [e]; exact h.fresh
    · by_cases hq : ga'' = ga
      · exact .inl hq
      · right
        cases hh : H ga'' with
        | none => rfl
        | some o =>
          exfalso
          have := h.keep ga'' o hh hq (fun hS => by obtain ⟨o1, ho1⟩ := hs _ hS; rw [ho1] at e; cases e)
          rw [e] at this; cases this
theorem Kept.mono {S T : Nat → Prop} {H H' : Heap} {ga ga' : Nat} (h : Kept S H ga ga' H') (hST : ∀ k, S k → T k) : Kept T H ga ga' H' := ⟨fun k o hk h1 h2 => h.keep k o hk h1 (fun hS => h2 (hST k hS)), h.fresh⟩
def SA (g gm : Nat) (k : Nat) : Prop := k = g ∨ k = gm

def madeOf (ds : List Dec) (d : Dec) : Nat × List Dec := if d.off = d.on then (d.off, ds) else match find ds d with
  | some n => (n, ds)
  | none => (ds.length, ds ++ [d])

theorem bdd_made {H : Heap} {v : Nat} {ds : List Dec} {g ga c gm : Nat} {es : List (Value × AV)} (a : InA H v ds g ga c gm es) {name off on : Nat} (m : Made v ds name off on) (hlen : ds.length ≤ 1000000) :
    TCall Try.prog 36 [pA g, iA name, iA off, iA on] H (fun x H' => x = iA (madeOf ds ⟨name, off, on⟩).1 ∧ ∃ ga' c' es', InA H' v (madeOf ds ⟨name, off, on⟩).2 g ga' c' gm es' ∧ Kept (SA g gm) H ga ga' H') noE := by
  refine TCall.body Try.func36 rfl rfl ?_
  refine WpC.seqR (WpOps.ps rfl trivial (WpOps.nil ?_))
  refine WpC.seq ?_
  refine WpC.seqR (WpOps.ps rfl trivial (WpOps.nil ?_))
  refine WpC.condP rfl ?_ ?_
  · intro hc
    refine WpC.seqR (WpOps.ps rfl trivial (WpOps.nil ?_))
    refine WpC.ret ?_
    refine VEnds.ret1 rfl rfl ?_
    have hc : off = on := Int.ofNat_inj.1 hc
    have e : madeOf ds ⟨name, off, on⟩ = (off, ds) := if_pos hc
    rw [e]
    exact ⟨rfl, ga, c, es, a, Kept.refl _ _ _⟩
  · intro hc
    have hc : off ≠ on := fun h => hc (by rw [h])
    have e : madeOf ds ⟨name, off, on⟩ = match find ds ⟨name, off, on⟩ with
      | some n => (n, ds)
      | none => (ds.length, ds ++ [⟨name, off, on⟩]) := if_neg hc
    refine WpC.skip ?_
    refine WpC.seqR ?_
    refine WpOps.ps rfl trivial ?_
    refine WpOps.consG rfl rfl (WpO.alloc rfl rfl fun gd hgd => ?_)
    refine WpOps.consG rfl rfl (WpO.init rfl rfl rfl rfl rfl rfl rfl rfl rfl ?_)
    refine WpOps.nil ?_
    obtain ⟨H1, hH1⟩ : ∃ H1, H1 = H.set gd (.cells 72 (encD ⟨name, off, on⟩)) := ⟨_, rfl⟩
    refine WpC.heap hH1.symm ?_
    have a1 : InA H1 v ds g ga c gm es := hH1 ▸ a.more hgd
    have b1 : H1 gd = some (.cells 72 (encD ⟨name, off, on⟩)) := by rw [hH1]; exact Heap.set_same _ _ _
    have u1 : ∀ k o, H k = some o → H1 k = some o := fun k o hk => by rw [hH1]; exact Heap.set_old hk hgd
    have w1 : ∀ k, H1 k = none → H k = none := fun k hk => by
      cases h : H k with
      | none => rfl
      | some o => rw [u1 k o h] at hk; cases hk
    have kd := a.known ⟨name, off, on⟩
    cases hf : find ds ⟨name, off, on⟩ with
    | some n =>
      rw [hf] at kd e
      refine WpC.seqD [.I, .I, .I, .S, .S, .S] [0, 1, 2, 3, 4, 5, 6, 7, 8, 9, 10] (by kernel_rfl) (by kernel_rfl) ?_
      refine WpPi.ps rfl trivial ?_
      refine WpPi.consS rfl rfl rfl rfl (Exact.load rfl rfl a1.box rfl rfl) ?_
      refine WpPi.consS rfl rfl rfl rfl (Exact.load rfl rfl b1 rfl rfl) ?_
      refine WpPi.consS rfl rfl rfl rfl (Exact.lookup rfl Try.underlying67 rfl a1.map rfl (keyD_ok ⟨name, off, on⟩) a1.keys kd) ?_
      refine WpPi.ps rfl trivial (WpPi.nil ?_)
      refine WpC.seq ?_
      refine WpC.seqR (WpOps.ps rfl trivial (WpOps.nil ?_))
      refine WpC.condF rfl ?_
      refine WpC.skip ?_
      refine WpC.seqR (WpOps.ps rfl trivial (WpOps.nil ?_))
      refine WpC.ret ?_
      refine VEnds.ret1 rfl rfl ?_
      rw [e]
      exact ⟨rfl, ga, c, es, a1, ⟨fun k o hk _ _ => u1 k o hk, .inl rfl⟩⟩
    | none =>
      rw [hf] at kd e
      refine WpC.seqD [.I, .I, .I, .S, .S, .S] [0, 1, 2, 3, 4, 5, 6, 7, 8, 9, 10] (by kernel_rfl) (by kernel_rfl) ?_
      refine WpPi.ps rfl trivial ?_
      refine WpPi.consS rfl rfl rfl rfl (Exact.load rfl rfl a1.box rfl rfl) ?_
      refine WpPi.consS rfl rfl rfl rfl (Exact.load rfl rfl b1 rfl rfl) ?_
      refine WpPi.consS rfl rfl rfl rfl (Exact.lookup_none rfl Try.underlying67 rfl rfl a1.map rfl (keyD_ok ⟨name, off, on⟩) a1.keys kd) ?_
      refine WpPi.ps rfl trivial (WpPi.nil ?_)
      refine WpC.seq ?_
      refine WpC.seqR (WpOps.ps rfl trivial (WpOps.nil ?_))
      refine WpC.condT rfl ?_
      refine WpC.seqR ?_
      refine WpOps.ps rfl trivial ?_
      refine WpOps.consE rfl rfl (Exact.load rfl rfl a1.box rfl rfl) ?_
      refine WpOps.ps rfl trivial (WpOps.nil ?_)
      -- what is new stands behind the others
      refine WpC.seqD [.I, .I, .I, .I, .S, .S, .I, .E, .I, .I, .E] [0, 1, 2, 3, 4, 5, 6, 7, 8, 9, 10] (by kernel_rfl) (by kernel_rfl) ?_
      refine WpPi.ps rfl trivial ?_
      refine WpPi.consS rfl rfl rfl rfl (Exact.load rfl rfl a1.box rfl rfl) ?_
      refine WpPi.consS rfl rfl rfl rfl (Exact.load rfl rfl b1 rfl rfl) ?_
      refine WpPi.consI rfl rfl rfl rfl (fun _ => Exact.litSlice rfl rfl) ?_
      refine WpPi.consE rfl rfl rfl rfl (WpO.append rfl dec_ek rfl a1.row (by simp) rfl (.rows _) (by simp [AV.one, Value.oneCell']) (by simp; omega) (by simp; omega) fun ga' c' hga' hc' => ?_)
      have n1 : gd ≠ g := (Heap.fresh_ne hgd a.box).symm
      have n2 : gd ≠ ga := (Heap.fresh_ne hgd a.row).symm
      have n3 : gd ≠ gm := (Heap.fresh_ne hgd a.map).symm
      have f1 : ga' ≠ g := by
        rcases hga' with rfl | h
        · exact a.ne1.symm
        · exact fun e => by rw [e, a1.box] at h; cases h
      have f2 : ga' ≠ gm := by
        rcases hga' with rfl | h
        · exact a.ne3
        · exact fun e => by rw [e, a1.map] at h; cases h
      have f3 : ga' ≠ gd := by
        rcases hga' with rfl | h
        · exact n2.symm
        · exact fun e => by rw [e, b1] at h; cases h
      have r1 : ((H1.del ga).set ga' (.row 72 3 ((ds.map encD).take ds.length ++ [encD ⟨name, off, on⟩]) c')) ga' = some (.row 72 3 ((ds ++ [(⟨name, off, on⟩ : Dec)]).map encD) c') := by
        rw [Heap.set_same, List.map_append, List.take_of_length_le (by simp)]; rfl
      obtain ⟨H2, hH2⟩ : ∃ H2, H2 = (H1.del ga).set ga' (.row 72 3 ((ds.map encD).take ds.length ++ [encD ⟨name, off, on⟩]) c') := ⟨_, rfl⟩
      rw [← hH2] at r1
      refine WpPi.heap hH2.symm ?_
      have u2 : ∀ k o, H1 k = some o → k ≠ ga → k ≠ ga' → H2 k = some o := fun k o hk h1 h2 => by
        rw [hH2, Heap.set_ne _ _ h2]; simp only [Heap.del]; rw [if_neg h1]; exact hk
      have g2 := u2 _ _ a1.box a.ne1 f1.symm
      refine WpPi.ps rfl trivial ?_
      refine WpPi.consE rfl rfl rfl rfl (WpO.put rfl rfl g2 rfl rfl rfl rfl rfl rfl ?_)
      obtain ⟨H3, hH3⟩ : ∃ H3, H3 = H2.set g (.cells 69 [iA v, .own (ds.length + 1) (some (ga', c')), .lit (.map (some gm))]) := ⟨_, rfl⟩
      refine WpPi.heap hH3.symm (WpPi.nil ?_)
      have g3 : H3 g = some (.cells 69 [iA v, .own (ds.length + 1) (some (ga', c')), .lit (.map (some gm))]) := by rw [hH3]; exact Heap.set_same _ _ _
      have u3 : ∀ k o, H2 k = some o → k ≠ g → H3 k = some o := fun k o hk h1 => by rw [hH3]; exact Heap.set_far hk h1
      have m3 := u3 _ _ (u2 _ _ a1.map a.ne3.symm f2.symm) a.ne2.symm
      have d3 := u3 _ _ (u2 _ _ b1 n2 f3.symm) n1
      refine WpC.draw [.I, .I, .I, .S, .S, .I, .E] [0, 1, 2, 3, 4, 5, 6] (by kernel_rfl) (by kernel_rfl) ?_
      refine WpPi.ps rfl trivial ?_
      refine WpPi.consS rfl rfl rfl rfl (Exact.load rfl rfl g3 rfl rfl) ?_
      refine WpPi.consS rfl rfl rfl rfl (Exact.load rfl rfl d3 rfl rfl) ?_
      refine WpPi.ps rfl trivial ?_
      refine WpPi.consE rfl rfl rfl rfl (WpO.mapUpdate (kv := keyD ⟨name, off, on⟩) rfl Try.underlying67 rfl m3 rfl rfl (keyD_ok ⟨name, off, on⟩) a1.keys ?_)
      refine WpPi.nil ?_
      refine WpC.seqR (WpOps.ps rfl trivial (WpOps.nil ?_))
      refine WpC.ret ?_
      refine VEnds.ret1 rfl rfl ?_
      rw [e]
      refine ⟨rfl, ga', c', _, ⟨?_, ?_, Heap.set_same _ _ _, keysOk_put a1.keys (keyD_ok ⟨name, off, on⟩), fun d => ?_, a.wf.push m hc hf⟩, ⟨fun k o hk h2 hS => ?_, ?_⟩⟩
      · rw [List.length_append]; exact Heap.set_far g3 a.ne2
      · exact Heap.set_far (u3 _ _ r1 f1) f2
      · rw [find_push a.wf m hc hf d]
        by_cases hd : d = ⟨name, off, on⟩
        · rw [if_pos hd, hd]
          exact mget_put_same (keyD_ok _) a1.keys
        · rw [if_neg hd]
          rw [mget_put_ne (keyD_ok _) (keyD_ok _) (fun h => hd (keyD_inj h)) a1.keys]
          exact a1.known d
      · refine Heap.set_far (u3 _ _ (u2 _ _ (u1 k o hk) h2 ?_) (fun e => hS (.inl e))) (fun e => hS (.inr e))
        rintro rfl
        rcases hga' with h | h
        · exact h2 h
        · rw [u1 k o hk] at h; cases h
      · exact hga'.imp id (w1 _)

/-! ### rules for what always, or never, holds -/
structure Rule (fr : Nat) (op : Bool → Bool → Bool) (rl : Nat → Nat → Option Nat) : Prop where
  call : ∀ (n m : Nat) (H : Heap), TCall Try.prog fr [iA n, iA m] H (fun x H' => x = (match rl n m with | some r => .tup [iA r, .lit (.bool true)] | none => .tup [iA 0, .lit (.bool false)]) ∧ H' = H) noE
  hit : ∀ n m r ds (s : Asg), rl n m = some r → sem ds r s = op (sem ds n s) (sem ds m s)
  which : ∀ n m r, rl n m = some r → r = n ∨ r = m ∨ r ≤ 1
  miss : ∀ n m, rl n m = none → 2 ≤ n ∨ 2 ≤ m
  enter : enterable Try.prog fr = true

def andRl (n m : Nat) : Option Nat := if n = 0 ∨ m = 0 then some 0 else if n = 1 then some m else if m = 1 ∨ n = m then some n else none
def xorRl (n m : Nat) : Option Nat := if n = m then some 0 else if n = 0 then some m else if m = 0 then some n else if n = 1 ∧ m = 1 then some 0 else none

theorem and_call (n m : Nat) (H : Heap) : TCall Try.prog 43 [iA n, iA m] H (fun x H' => x = (match andRl n m with | some r => .tup [iA r, .lit (.bool true)] | none => .tup [iA 0, .lit (.bool false)]) ∧ H' = H) noE := by
  refine TCall.body Try.func43 rfl rfl ?_
  refine WpC.seqR (WpOps.ps rfl trivial (WpOps.nil ?_))
  refine WpC.seq ?_
  refine WpC.block ?_
  refine WpC.seqR ?_
  refine WpOps.cutB 7 6 (.lit (.bool (decide (n = 0 ∨ m = 0)))) rfl ?_ ?_
  · refine WpOps.pn 3 rfl trivial ?_
    refine WpOps.split 9 rfl ?_ ?_
    · intro h
      refine WpOps.ps rfl trivial (WpOps.nil ⟨?_, rfl⟩)
      have h : n = 0 := by have : (n : Int) = 0 := by simpa using h
                           omega
      exact congrArg (fun b => AV.lit (.bool b)) (decide_eq_true (Or.inl h)).symm
    · intro h
      refine WpOps.ps rfl trivial (WpOps.nil ⟨?_, rfl⟩)
      have h : ¬ (n : Int) = 0 := by simpa using h
      exact congrArg (fun b => AV.lit (.bool b)) (decide_eq_decide.2 (by show (m : Int) = 0 ↔ _; omega))
  intro env0
  refine WpOps.nil ?_
  refine WpC.condP rfl ?_ ?_
  · intro hc
    refine WpC.seqR (WpOps.ps rfl trivial (WpOps.nil ?_))
    refine WpC.ret ?_
    refine VEnds.ret2 rfl rfl rfl ⟨?_, rfl⟩
    rw [show andRl n m = some 0 from if_pos hc]; rfl
  · intro hc
    refine WpC.seqR (WpOps.ps rfl trivial (WpOps.nil ?_))
    refine WpC.condP rfl ?_ ?_
    · intro h1
      have h1 : n = 1 := by omega
      refine WpC.seqR (WpOps.ps rfl trivial (WpOps.nil ?_))
      refine WpC.ret ?_
      refine VEnds.ret2 rfl rfl rfl ⟨?_, rfl⟩
      rw [show andRl n m = some m by unfold andRl; rw [if_neg hc, if_pos h1]]
    · intro h1
      have h1 : ¬ n = 1 := by omega
      refine WpC.seqR ?_
      refine WpOps.cutB 8 17 (.lit (.bool (decide (m = 1 ∨ n = m)))) rfl ?_ ?_
      · refine WpOps.pn 3 rfl trivial ?_
        refine WpOps.split 20 rfl ?_ ?_
        · intro h
          refine WpOps.ps rfl trivial (WpOps.nil ⟨?_, rfl⟩)
          have h : m = 1 := by have : (m : Int) = 1 := by simpa using h
                               omega
          exact congrArg (fun b => AV.lit (.bool b)) (decide_eq_true (Or.inl h)).symm
        · intro h
          refine WpOps.ps rfl trivial (WpOps.nil ⟨?_, rfl⟩)
          have h : ¬ (m : Int) = 1 := by simpa using h
          exact congrArg (fun b => AV.lit (.bool b)) (decide_eq_decide.2 (by show (n : Int) = m ↔ _; omega))
      intro env0
      refine WpOps.nil ?_
      refine WpC.condP rfl ?_ ?_
      · intro h2
        refine WpC.seqR (WpOps.ps rfl trivial (WpOps.nil ?_))
        refine WpC.ret ?_
        refine VEnds.ret2 rfl rfl rfl ⟨?_, rfl⟩
        rw [show andRl n m = some n by unfold andRl; rw [if_neg hc, if_neg h1, if_pos h2]]
      · intro h2
        refine WpC.skip ?_
        refine WpC.seqR (WpOps.ps rfl trivial (WpOps.nil ?_))
        refine WpC.ret ?_
        refine VEnds.ret2 rfl rfl rfl ⟨?_, rfl⟩
        rw [show andRl n m = none by unfold andRl; rw [if_neg hc, if_neg h1, if_neg h2]]; rfl

theorem and_rule : Rule 43 (fun a b => a && b) andRl where
  call := and_call
  hit := fun n m r ds s h => by
    unfold andRl at h
    split at h
    · rename_i hc
      injection h with h; subst h
      rcases hc with rfl | rfl <;> simp [sem_zero]
    · split at h
      · rename_i h1; subst h1; injection h with h; subst h; simp [sem_one]
      · split at h
        · rename_i h2; injection h with h; subst h
          rcases h2 with rfl | rfl <;> simp [sem_one]
        · cases h
  which := fun n m r h => by
    unfold andRl at h
    split at h
    · injection h with h; omega
    · split at h
      · injection h with h; omega
      · split at h
        · injection h with h; omega
        · cases h
  miss := fun n m h => by
    unfold andRl at h
    split at h
    · cases h
    · split at h
      · cases h
      · split at h
        · cases h
        · omega
  enter := by kernel_rfl

theorem xor_call (n m : Nat) (H : Heap) : TCall Try.prog 44 [iA n, iA m] H (fun x H' => x = (match xorRl n m with | some r => .tup [iA r, .lit (.bool true)] | none => .tup [iA 0, .lit (.bool false)]) ∧ H' = H) noE := by
  refine TCall.body Try.func44 rfl rfl ?_
  refine WpC.seqR (WpOps.ps rfl trivial (WpOps.nil ?_))
  refine WpC.seq ?_
  refine WpC.block ?_
  refine WpC.seqR (WpOps.ps rfl trivial (WpOps.nil ?_))
  refine WpC.condP rfl ?_ ?_
  · intro hc
    have hc : n = m := by omega
    refine WpC.seqR (WpOps.ps rfl trivial (WpOps.nil ?_))
    refine WpC.ret ?_
    refine VEnds.ret2 rfl rfl rfl ⟨?_, rfl⟩
    rw [show xorRl n m = some 0 from if_pos hc]; rfl
  · intro hc
    have hc : ¬ n = m := by omega
    refine WpC.seqR (WpOps.ps rfl trivial (WpOps.nil ?_))
    refine WpC.condP rfl ?_ ?_
    · intro h1
      have h1 : n = 0 := by omega
      refine WpC.seqR (WpOps.ps rfl trivial (WpOps.nil ?_))
      refine WpC.ret ?_
      refine VEnds.ret2 rfl rfl rfl ⟨?_, rfl⟩
      rw [show xorRl n m = some m by unfold xorRl; rw [if_neg hc, if_pos h1]]
    · intro h1
      have h1 : ¬ n = 0 := by omega
      refine WpC.seqR (WpOps.ps rfl trivial (WpOps.nil ?_))
      refine WpC.condP rfl ?_ ?_
      · intro h2
        have h2 : m = 0 := by omega
        refine WpC.seqR (WpOps.ps rfl trivial (WpOps.nil ?_))
        refine WpC.ret ?_
        refine VEnds.ret2 rfl rfl rfl ⟨?_, rfl⟩
        rw [show xorRl n m = some n by unfold xorRl; rw [if_neg hc, if_neg h1, if_pos h2]]
      · intro h2
        have h2 : ¬ m = 0 := by omega
        refine WpC.seqR ?_
        refine WpOps.cutB 7 18 (.lit (.bool (decide (n = 1 ∧ m = 1)))) rfl ?_ ?_
        · refine WpOps.pn 3 rfl trivial ?_
          refine WpOps.split 21 rfl ?_ ?_
          · intro h
            refine WpOps.ps rfl trivial (WpOps.nil ⟨?_, rfl⟩)
            have h : (n : Int) = 1 := by simpa using h
            exact congrArg (fun b => AV.lit (.bool b)) (decide_eq_decide.2 (by show (m : Int) = 1 ↔ _; omega))
          · intro h
            refine WpOps.ps rfl trivial (WpOps.nil ⟨?_, rfl⟩)
            have h : ¬ (n : Int) = 1 := by simpa using h
            exact congrArg (fun b => AV.lit (.bool b)) (decide_eq_false (fun h3 => h (by omega))).symm
        intro env0
        refine WpOps.nil ?_
        refine WpC.condP rfl ?_ ?_
        · intro h3
          refine WpC.seqR (WpOps.ps rfl trivial (WpOps.nil ?_))
          refine WpC.ret ?_
          refine VEnds.ret2 rfl rfl rfl ⟨?_, rfl⟩
          rw [show xorRl n m = some 0 by unfold xorRl; rw [if_neg hc, if_neg h1, if_neg h2, if_pos h3]]; rfl
        · intro h3
          refine WpC.skip ?_
          refine WpC.seqR (WpOps.ps rfl trivial (WpOps.nil ?_))
          refine WpC.ret ?_
          refine VEnds.ret2 rfl rfl rfl ⟨?_, rfl⟩
          rw [show xorRl n m = none by unfold xorRl; rw [if_neg hc, if_neg h1, if_neg h2, if_neg h3]]; rfl

theorem xor_rule : Rule 44 (fun a b => a ^^ b) xorRl where
  call := xor_call
  hit := fun n m r ds s h => by
    unfold xorRl at h
    split at h
    · rename_i hc; subst hc; injection h with h; subst h; simp [sem_zero]
    · split at h
      · rename_i h1; subst h1; injection h with h; subst h; simp [sem_zero]
      · split at h
        · rename_i h2; subst h2; injection h with h; subst h; simp [sem_zero]
        · split at h
          · rename_i h3; obtain ⟨rfl, rfl⟩ := h3; rename_i h4; exact (h4 rfl).elim
          · cases h
  which := fun n m r h => by
    unfold xorRl at h
    split at h
    · injection h with h; omega
    · split at h
      · injection h with h; omega
      · split at h
        · injection h with h; omega
        · split at h
          · injection h with h; omega
          · cases h
  miss := fun n m h => by
    unfold xorRl at h
    split at h
    · cases h
    · split at h
      · cases h
      · split at h
        · cases h
        · split at h
          · cases h
          · omega
  enter := by kernel_rfl
end Go.Proofs.Ytkhgiieglpdejaa
