/-
  What the functions of package bdd answer that make a condition.
-/
import Derived.Test.YtkhgiieglpdejaaBoth
set_option linter.unusedVariables false
set_option linter.unusedSimpArgs false
namespace Go.Proofs.Ytkhgiieglpdejaa
open Go Go.Vc Go.Vc.Bdd
attribute [local irreducible] WpC WpOps WpPi WpO Exact TCall VEnds

def Makes (v g gm : Nat) (ds : List Dec) (ga : Nat) (H : Heap) (k : Nat) (φ : Asg → Bool) (out : Nat → AV) (x : AV) (H' : Heap) : Prop :=
  ∃ r ds' ga' c' es', x = out r ∧ InA H' v ds' g ga' c' gm es' ∧ Ext ds ds' ∧ r < ds'.length ∧ (∀ s, sem ds' r s = φ s) ∧ ds'.length ≤ ds.length + k ∧ Kept (SA g gm) H ga ga' H'
theorem InA.stay {H : Heap} {v : Nat} {ds : List Dec} {g ga c gm : Nat} {es : List (Value × AV)} (a : InA H v ds g ga c gm es) : ∀ q, SA g gm q → ∃ o, H q = some o := fun q h => h.elim (fun e => e ▸ ⟨_, a.box⟩) (fun e => e ▸ ⟨_, a.map⟩)

theorem bdd_both {fr : Nat} {op : Bool → Bool → Bool} {rl : Nat → Nat → Option Nat} (R : Rule fr op rl) {H : Heap} {v : Nat} {ds : List Dec} {g ga c gm : Nat} {es : List (Value × AV)} (a : InA H v ds g ga c gm es) (hv : v ≤ 8) {n m : Nat} (hn : n < ds.length) (hm : m < ds.length) (hlen : ds.length ≤ 900000) :
    TCall Try.prog 42 [pA g, iA n, iA m, .clo (.func fr) [] []] H (Makes v g gm ds ga H 256 (fun s => op (sem ds n s) (sem ds m s)) iA) noE := by
  have h8 := pow8 hv
  refine TCall.body Try.func42 rfl rfl ?_
  refine WpC.seqR ?_
  refine WpOps.consG rfl rfl (WpO.box rfl rfl fun gb hgb => ?_)
  refine WpOps.consG rfl rfl (WpO.box rfl rfl fun gr hgr => ?_)
  refine WpOps.ps rfl trivial (WpOps.nil ?_)
  refine WpC.seqR ?_
  refine WpOps.consG rfl rfl (WpO.makeMap rfl fun gmd hgmd => ?_)
  refine WpOps.consG rfl rfl (WpO.alloc rfl rfl fun gd hgd => ?_)
  refine WpOps.consG rfl rfl (WpO.init rfl rfl rfl rfl rfl rfl rfl rfl rfl ?_)
  refine WpOps.nil ?_
  refine WpC.seqR ?_
  refine WpOps.consG rfl rfl (WpO.alloc rfl rfl fun gw hgw => ?_)
  refine WpOps.nil ?_
  refine WpC.seqR ?_
  refine WpOps.ps rfl trivial ?_
  refine WpOps.consG rfl rfl (WpO.init rfl rfl rfl rfl rfl rfl rfl rfl rfl ?_)
  refine WpOps.nil ?_
  -- the heap, its blocks by name
  obtain ⟨H1, e1⟩ : ∃ H1, H1 = H.set gb (.cells 27 [pA g]) := ⟨_, rfl⟩
  obtain ⟨H2, e2⟩ : ∃ H2, H2 = H1.set gr (.cells 81 [.clo (.func fr) [] []]) := ⟨_, rfl⟩
  obtain ⟨H3, e3⟩ : ∃ H3, H3 = H2.set gmd (.map []) := ⟨_, rfl⟩
  obtain ⟨H4, e4⟩ : ∃ H4, H4 = H3.set gd (.cells 83 [.lit (.map (some gmd))]) := ⟨_, rfl⟩
  obtain ⟨H5, e5⟩ : ∃ H5, H5 = H4.set gw (.cells 73 [.clo (.func 45) [] [pA gr, pA gd, pA gb, pA gw]]) := ⟨_, rfl⟩
  have hgr : H1 gr = none := by rw [e1]; exact hgr
  have hgmd : H2 gmd = none := by rw [e2, e1]; exact hgmd
  have hgd : H3 gd = none := by rw [e3, e2, e1]; exact hgd
  have hgw : H4 gw = none := by rw [e4, e3, e2, e1]; exact hgw
  refine WpC.heap (show _ = H5 from by rw [e5, e4, e3, e2, e1]; rfl) ?_
  have up : ∀ k o, H k = some o → H5 k = some o := fun k o h => by
    rw [e5]; refine Heap.set_old ?_ hgw
    rw [e4]; refine Heap.set_old ?_ hgd
    rw [e3]; refine Heap.set_old ?_ hgmd
    rw [e2]; refine Heap.set_old ?_ hgr
    rw [e1]; exact Heap.set_old h hgb
  have down : ∀ k, H5 k = none → H k = none := fun k h => by
    cases hh : H k with
    | none => rfl
    | some o => rw [up k o hh] at h; cases h
  have a5 : InA H5 v ds g ga c gm es := ⟨up _ _ a.box, up _ _ a.row, up _ _ a.map, a.keys, a.known, a.wf⟩
  have b1 : H1 gb = some (.cells 27 [pA g]) := by rw [e1]; exact Heap.set_same _ _ _
  have b2 : H2 gr = some (.cells 81 [.clo (.func fr) [] []]) := by rw [e2]; exact Heap.set_same _ _ _
  have b3 : H3 gmd = some (.map []) := by rw [e3]; exact Heap.set_same _ _ _
  have b4 : H4 gd = some (.cells 83 [.lit (.map (some gmd))]) := by rw [e4]; exact Heap.set_same _ _ _
  have b5 : H5 gw = some (.cells 73 [.clo (.func 45) [] [pA gr, pA gd, pA gb, pA gw]]) := by rw [e5]; exact Heap.set_same _ _ _
  have u5 : ∀ k o, H4 k = some o → H5 k = some o := fun k o h => by rw [e5]; exact Heap.set_old h hgw
  have u4 : ∀ k o, H3 k = some o → H5 k = some o := fun k o h => u5 k o (by rw [e4]; exact Heap.set_old h hgd)
  have u3 : ∀ k o, H2 k = some o → H5 k = some o := fun k o h => u4 k o (by rw [e3]; exact Heap.set_old h hgmd)
  have u2 : ∀ k o, H1 k = some o → H5 k = some o := fun k o h => u3 k o (by rw [e2]; exact Heap.set_old h hgr)
  have q : Clo H5 fr g gr gd gb gw gmd := ⟨u3 _ _ b2, u5 _ _ b4, u2 _ _ b1, b5⟩
  have hd : H5 gmd = some (.map []) := u4 _ _ b3
  have hne : gmd ≠ gm := fun e => by
    have h2 : H2 gm = some (.map es) := by
      rw [e2]; refine Heap.set_old ?_ hgr
      rw [e1]; exact Heap.set_old a.map hgb
    rw [← e, hgmd] at h2; cases h2
  have far : ∀ k o, H k = some o → k ≠ gmd := fun k o h e => by
    have h2 : H2 k = some o := by
      rw [e2]; refine Heap.set_old ?_ hgr
      rw [e1]; exact Heap.set_old h hgb
    rw [e, hgmd] at h2; cases h2
  refine WpC.seqR ?_
  refine WpOps.consE rfl rfl (Exact.load rfl rfl b5 rfl rfl) ?_
  refine WpOps.ps rfl trivial ?_
  refine WpOps.consG rfl rfl (WpO.call_clo rfl rfl rfl rfl ((bdd_work R v n m ds H5 ga c es [] hn hm (by omega) (by omega) a5 q hd ⟨fun e he => (by cases he), fun n m x hx => (by cases hx)⟩ hne).mono ?_ (fun _ _ h => h.elim)))
  rintro _ H' ⟨r, ds', ga', c', es', es2', rfl, a', x', good, len', _, _, kept⟩
  refine WpOps.ps rfl trivial (WpOps.nil ?_)
  refine WpC.ret ?_
  refine VEnds.ret1 rfl rfl ?_
  refine ⟨r, ds', ga', c', es', rfl, a', x', good.hr, fun s => ?_, by omega, ⟨fun k o hk h1 h2 => kept.keep k o (up k o hk) h1 (fun hS => ?_), kept.fresh.imp id (down _)⟩⟩
  · rw [good.hsem, x'.sem a.wf _ _ hn, x'.sem a.wf _ _ hm]
  · rcases hS with h | h | h
    · exact h2 (.inl h)
    · exact h2 (.inr h)
    · exact far k o hk h

theorem bdd_and {H : Heap} {v : Nat} {ds : List Dec} {g ga c gm : Nat} {es : List (Value × AV)} (a : InA H v ds g ga c gm es) (hv : v ≤ 8) {n m : Nat} (hn : n < ds.length) (hm : m < ds.length) (hlen : ds.length ≤ 900000) :
    TCall Try.prog 34 [pA g, iA n, iA m] H (Makes v g gm ds ga H 256 (fun s => sem ds n s && sem ds m s) iA) noE := by
  refine TCall.body Try.func34 rfl rfl ?_
  refine WpC.seqR (WpOps.ps rfl trivial (WpOps.nil ?_))
  refine WpC.seqR ?_
  refine WpOps.ps rfl trivial ?_
  refine WpOps.consG rfl rfl (WpO.call rfl rfl rfl ((bdd_both and_rule a hv hn hm hlen).mono ?_ (fun _ _ h => h.elim)))
  rintro _ H' ⟨r, ds', ga', c', es', rfl, h⟩
  refine WpOps.ps rfl trivial (WpOps.nil ?_)
  refine WpC.ret ?_
  exact VEnds.ret1 rfl rfl ⟨r, ds', ga', c', es', rfl, h⟩

theorem bdd_xor {H : Heap} {v : Nat} {ds : List Dec} {g ga c gm : Nat} {es : List (Value × AV)} (a : InA H v ds g ga c gm es) (hv : v ≤ 8) {n m : Nat} (hn : n < ds.length) (hm : m < ds.length) (hlen : ds.length ≤ 900000) :
    TCall Try.prog 35 [pA g, iA n, iA m] H (Makes v g gm ds ga H 256 (fun s => sem ds n s ^^ sem ds m s) iA) noE := by
  refine TCall.body Try.func35 rfl rfl ?_
  refine WpC.seqR (WpOps.ps rfl trivial (WpOps.nil ?_))
  refine WpC.seqR ?_
  refine WpOps.ps rfl trivial ?_
  refine WpOps.consG rfl rfl (WpO.call rfl rfl rfl ((bdd_both xor_rule a hv hn hm hlen).mono ?_ (fun _ _ h => h.elim)))
  rintro _ H' ⟨r, ds', ga', c', es', rfl, h⟩
  refine WpOps.ps rfl trivial (WpOps.nil ?_)
  refine WpC.ret ?_
  exact VEnds.ret1 rfl rfl ⟨r, ds', ga', c', es', rfl, h⟩

/-- are these conditions of the arena -/
def zA (n : Int) : List AV := [.lit (.int .i64 n)]
def rightOf (len : Nat) (l : List Int) : Bool := decide (∀ n ∈ l, 0 ≤ n ∧ n < len)
theorem bdd_right {H : Heap} {v : Nat} {ds : List Dec} {g ga c gm : Nat} {es : List (Value × AV)} (a : InA H v ds g ga c gm es) (l : List Int) (hl : l.length ≤ 10) (hlen : ds.length ≤ 1000000) :
    TCall Try.prog 32 [pA g, .rows 1 (l.map zA)] H (fun x H' => x = .lit (.bool (rightOf ds.length l)) ∧ H' = H) noE := by
  refine TCall.body Try.func32 rfl rfl ?_
  refine WpC.seqR (WpOps.ps rfl trivial (WpOps.nil ?_))
  refine WpC.seq ?_
  refine WpC.seqR (WpOps.ps rfl trivial (WpOps.nil ?_))
  refine WpC.block ?_
  refine WpC.loopK (fun x : Nat => [(9, iA x), (8, iA (l.map zA).length), (7, .rows 1 (l.map zA)), (0, pA g)]) (fun x H' => x ≤ l.length ∧ (∀ n ∈ l.take x, 0 ≤ n ∧ n < ds.length) ∧ H' = H) (fun x => l.length - x) 0 ⟨rfl, rfl, rfl, rfl, trivial⟩ ⟨Nat.zero_le _, (fun n hn => by simp at hn), rfl⟩ ?_
  rintro k env H' ⟨hk, hl2, rfl⟩
  refine WpC.seqR (WpOps.ps rfl trivial (WpOps.nil ?_))
  refine WpC.seq ?_
  refine WpC.condP rfl ?_ ?_
  · intro hc
    have hc : k < l.length := ltlen.1 hc
    obtain ⟨z, hz⟩ : ∃ z, l[k]? = some z := ⟨_, List.getElem?_eq_getElem hc⟩
    refine WpC.skip ?_
    refine WpC.seq ?_
    refine WpC.block ?_
    refine WpC.seqR ?_
    refine WpOps.consE rfl rfl (Exact.indexAddr_rows rfl rfl rfl (map_at hz) rfl rfl (by decide)) ?_
    refine WpOps.consE rfl rfl (Exact.load_rop rfl rfl rfl) ?_
    refine WpOps.ps rfl trivial (WpOps.nil ?_)
    refine WpC.seqR ?_
    refine WpOps.cutB 11 23 (.lit (.bool (decide (¬ (0 ≤ z ∧ z < ds.length))))) rfl ?_ ?_
    · refine WpOps.pn 3 rfl trivial ?_
      refine WpOps.split 15 rfl ?_ ?_
      · intro h
        refine WpOps.ps rfl trivial (WpOps.nil ⟨?_, rfl⟩)
        have h : z < 0 := by simpa using h
        exact congrArg (fun b => AV.lit (.bool b)) (decide_eq_true (p := ¬ (0 ≤ z ∧ z < (ds.length : Int))) (fun h2 => by omega)).symm
      · intro h
        have h : ¬ z < 0 := by simpa using h
        refine WpOps.ps rfl trivial ?_
        refine WpOps.consE rfl rfl (Exact.load rfl rfl a.box rfl rfl) ?_
        refine WpOps.ps rfl trivial (WpOps.nil ⟨?_, rfl⟩)
        exact congrArg (fun b => AV.lit (.bool b)) (decide_eq_decide.2 (by omega))
    intro env0
    refine WpOps.nil ?_
    refine WpC.condP rfl ?_ ?_
    · intro hb
      refine WpC.seqR (WpOps.ps rfl trivial (WpOps.nil ?_))
      refine WpC.ret ?_
      refine VEnds.ret1 rfl rfl ⟨?_, rfl⟩
      have : rightOf ds.length l = false := decide_eq_false fun h => hb (h z (List.mem_of_getElem? hz))
      rw [this]
    · intro hb
      have hb : 0 ≤ z ∧ z < ds.length := Decidable.of_not_not hb
      refine WpC.skip ?_
      refine WpC.region (WpOps.ps rfl (by simp only [conj, inR]; omega) (WpOps.nil ?_))
      refine ⟨k + 1, by omega, ⟨rfl, rfl, rfl, rfl, trivial⟩, hc, fun n hn => ?_, rfl⟩
      rw [List.take_add_one, hz] at hn
      rcases List.mem_append.1 hn with h | h
      · exact hl2 n h
      · simp at h; subst h; exact hb
  · intro hc
    have h3 : ¬ (k < l.length) := fun h => hc (ltlen.2 h)
    have hc : k = l.length := by omega
    subst hc
    rw [List.take_length] at hl2
    refine WpC.exit ?_
    refine WpC.seqR (WpOps.ps rfl trivial (WpOps.nil ?_))
    refine WpC.ret ?_
    refine VEnds.ret1 rfl rfl ⟨?_, rfl⟩
    have : rightOf ds.length l = true := decide_eq_true hl2
    rw [this]

abbrev eA (x : AV) (e : Nat) : AV := .tup [x, iA e]

theorem bdd_And {H : Heap} {v : Nat} {ds : List Dec} {g ga c gm : Nat} {es : List (Value × AV)} (a : InA H v ds g ga c gm es) (hv : v ≤ 8) {n m : Nat} (hn : n < ds.length) (hm : m < ds.length) (hlen : ds.length ≤ 900000) :
    TCall Try.prog 20 [pA g, iA n, iA m] H (Makes v g gm ds ga H 256 (fun s => sem ds n s && sem ds m s) (fun r => eA (iA r) 0)) noE := by
  refine TCall.body Try.func20 rfl rfl ?_
  refine WpC.seqR (WpOps.ps rfl trivial (WpOps.nil ?_))
  refine WpC.seq ?_
  refine WpC.seqR ?_
  refine WpOps.ps rfl trivial ?_
  refine WpOps.consE rfl rfl (Exact.litSlice rfl rfl) ?_
  refine WpOps.consE rfl rfl (Exact.call rfl rfl rfl (bdd_right a [(n : Int), (m : Int)] (by simp) (by omega))) ?_
  refine WpOps.at 12 (v := .lit (.bool true)) (congrArg (fun b => AV.lit (.bool b)) (decide_eq_true (by simp; omega))) ?_
  refine WpOps.ps rfl trivial (WpOps.nil ?_)
  refine WpC.condF rfl ?_
  refine WpC.skip ?_
  refine WpC.seqR ?_
  refine WpOps.ps rfl trivial ?_
  refine WpOps.consG rfl rfl (WpO.call rfl rfl rfl ((bdd_and a hv hn hm hlen).mono ?_ (fun _ _ h => h.elim)))
  rintro _ H' ⟨r, ds', ga', c', es', rfl, h⟩
  refine WpOps.ps rfl trivial (WpOps.nil ?_)
  refine WpC.ret ?_
  exact VEnds.ret2 rfl rfl rfl ⟨r, ds', ga', c', es', rfl, h⟩

theorem bdd_Or {H : Heap} {v : Nat} {ds : List Dec} {g ga c gm : Nat} {es : List (Value × AV)} (a : InA H v ds g ga c gm es) (hv : v ≤ 8) {n m : Nat} (hn : n < ds.length) (hm : m < ds.length) (hlen : ds.length ≤ 800000) :
    TCall Try.prog 21 [pA g, iA n, iA m] H (Makes v g gm ds ga H 768 (fun s => sem ds n s || sem ds m s) (fun r => eA (iA r) 0)) noE := by
  refine TCall.body Try.func21 rfl rfl ?_
  refine WpC.seqR (WpOps.ps rfl trivial (WpOps.nil ?_))
  refine WpC.seq ?_
  refine WpC.seqR ?_
  refine WpOps.ps rfl trivial ?_
  refine WpOps.consE rfl rfl (Exact.litSlice rfl rfl) ?_
  refine WpOps.consE rfl rfl (Exact.call rfl rfl rfl (bdd_right a [(n : Int), (m : Int)] (by simp) (by omega))) ?_
  refine WpOps.at 12 (v := .lit (.bool true)) (congrArg (fun b => AV.lit (.bool b)) (decide_eq_true (by simp; omega))) ?_
  refine WpOps.ps rfl trivial (WpOps.nil ?_)
  refine WpC.condF rfl ?_
  refine WpC.skip ?_
  refine WpC.seqR ?_
  refine WpOps.ps rfl trivial ?_
  refine WpOps.consG rfl rfl (WpO.call rfl rfl rfl ((bdd_xor a hv hn hm (by omega)).mono ?_ (fun _ _ h => h.elim)))
  rintro _ H1 ⟨r1, ds1, ga1, c1, es1, rfl, a1, x1, lt1, sem1, len1, kept1⟩
  have l1 := x1.len
  refine WpOps.ps rfl trivial ?_
  refine WpOps.consG rfl rfl (WpO.call rfl rfl rfl ((bdd_and a1 hv (n := n) (m := m) (by omega) (by omega) (by omega)).mono ?_ (fun _ _ h => h.elim)))
  rintro _ H2 ⟨r2, ds2, ga2, c2, es2, rfl, a2, x2, lt2, sem2, len2, kept2⟩
  have l2 := x2.len
  refine WpOps.consG rfl rfl (WpO.call rfl rfl rfl ((bdd_xor a2 hv (n := r1) (m := r2) (by omega) (by omega) (by omega)).mono ?_ (fun _ _ h => h.elim)))
  rintro _ H3 ⟨r3, ds3, ga3, c3, es3, rfl, a3, x3, lt3, sem3, len3, kept3⟩
  refine WpOps.ps rfl trivial (WpOps.nil ?_)
  refine WpC.ret ?_
  refine VEnds.ret2 rfl rfl rfl ⟨r3, ds3, ga3, c3, es3, rfl, a3, x1.trans (x2.trans x3), lt3, fun s => ?_, by omega, (kept1.trans kept2 a1.stay).trans kept3 a2.stay⟩
  dsimp only at sem1 sem2 sem3 ⊢
  rw [sem3, x2.sem a1.wf _ _ lt1, sem1, sem2, x1.sem a.wf _ _ hn, x1.sem a.wf _ _ hm]
  cases sem ds n s <;> cases sem ds m s <;> rfl

theorem bdd_Xor {H : Heap} {v : Nat} {ds : List Dec} {g ga c gm : Nat} {es : List (Value × AV)} (a : InA H v ds g ga c gm es) (hv : v ≤ 8) {n m : Nat} (hn : n < ds.length) (hm : m < ds.length) (hlen : ds.length ≤ 900000) :
    TCall Try.prog 23 [pA g, iA n, iA m] H (Makes v g gm ds ga H 256 (fun s => sem ds n s ^^ sem ds m s) (fun r => eA (iA r) 0)) noE := by
  refine TCall.body Try.func23 rfl rfl ?_
  refine WpC.seqR (WpOps.ps rfl trivial (WpOps.nil ?_))
  refine WpC.seq ?_
  refine WpC.seqR ?_
  refine WpOps.ps rfl trivial ?_
  refine WpOps.consE rfl rfl (Exact.litSlice rfl rfl) ?_
  refine WpOps.consE rfl rfl (Exact.call rfl rfl rfl (bdd_right a [(n : Int), (m : Int)] (by simp) (by omega))) ?_
  refine WpOps.at 12 (v := .lit (.bool true)) (congrArg (fun b => AV.lit (.bool b)) (decide_eq_true (by simp; omega))) ?_
  refine WpOps.ps rfl trivial (WpOps.nil ?_)
  refine WpC.condF rfl ?_
  refine WpC.skip ?_
  refine WpC.seqR ?_
  refine WpOps.ps rfl trivial ?_
  refine WpOps.consG rfl rfl (WpO.call rfl rfl rfl ((bdd_xor a hv hn hm hlen).mono ?_ (fun _ _ h => h.elim)))
  rintro _ H' ⟨r, ds', ga', c', es', rfl, h⟩
  refine WpOps.ps rfl trivial (WpOps.nil ?_)
  refine WpC.ret ?_
  exact VEnds.ret2 rfl rfl rfl ⟨r, ds', ga', c', es', rfl, h⟩

theorem bdd_Not {H : Heap} {v : Nat} {ds : List Dec} {g ga c gm : Nat} {es : List (Value × AV)} (a : InA H v ds g ga c gm es) (hv : v ≤ 8) {n : Nat} (hn : n < ds.length) (hlen : ds.length ≤ 900000) :
    TCall Try.prog 19 [pA g, iA n] H (Makes v g gm ds ga H 256 (fun s => !sem ds n s) (fun r => eA (iA r) 0)) noE := by
  have h2 := a.wf.two
  refine TCall.body Try.func19 rfl rfl ?_
  refine WpC.seqR (WpOps.ps rfl trivial (WpOps.nil ?_))
  refine WpC.seqR ?_
  refine WpOps.ps rfl trivial ?_
  refine WpOps.consG rfl rfl (WpO.call rfl rfl rfl ((bdd_Xor a hv hn (m := 1) (by omega) hlen).mono ?_ (fun _ _ h => h.elim)))
  rintro _ H' ⟨r, ds', ga', c', es', rfl, a', x', lt, hs, h⟩
  refine WpOps.ps rfl trivial (WpOps.nil ?_)
  refine WpC.ret ?_
  exact VEnds.ret2 rfl rfl rfl ⟨r, ds', ga', c', es', rfl, a', x', lt, fun s => by dsimp only at hs ⊢; rw [hs, sem_one]; cases sem ds n s <;> rfl, h⟩

theorem bdd_Ite {H : Heap} {v : Nat} {ds : List Dec} {g ga c gm : Nat} {es : List (Value × AV)} (a : InA H v ds g ga c gm es) (hv : v ≤ 8) {q n m : Nat} (hq : q < ds.length) (hn : n < ds.length) (hm : m < ds.length) (hlen : ds.length ≤ 800000) :
    TCall Try.prog 22 [pA g, iA q, iA n, iA m] H (Makes v g gm ds ga H 1024 (fun s => if sem ds q s then sem ds n s else sem ds m s) (fun r => eA (iA r) 0)) noE := by
  have h2 := a.wf.two
  refine TCall.body Try.func22 rfl rfl ?_
  refine WpC.seqR (WpOps.ps rfl trivial (WpOps.nil ?_))
  refine WpC.seq ?_
  refine WpC.seqR ?_
  refine WpOps.ps rfl trivial ?_
  refine WpOps.consE rfl rfl (Exact.litSlice rfl rfl) ?_
  refine WpOps.consE rfl rfl (Exact.call rfl rfl rfl (bdd_right a [(q : Int), (n : Int), (m : Int)] (by simp) (by omega))) ?_
  refine WpOps.at 15 (v := .lit (.bool true)) (congrArg (fun b => AV.lit (.bool b)) (decide_eq_true (by simp; omega))) ?_
  refine WpOps.ps rfl trivial (WpOps.nil ?_)
  refine WpC.condF rfl ?_
  refine WpC.skip ?_
  refine WpC.seqR ?_
  refine WpOps.ps rfl trivial ?_
  refine WpOps.consG rfl rfl (WpO.call rfl rfl rfl ((bdd_and a hv hq hn (by omega)).mono ?_ (fun _ _ h => h.elim)))
  rintro _ H1 ⟨r1, ds1, ga1, c1, es1, rfl, a1, x1, lt1, sem1, len1, kept1⟩
  have l1 := x1.len
  refine WpOps.ps rfl trivial ?_
  refine WpOps.consG rfl rfl (WpO.call rfl rfl rfl ((bdd_xor a1 hv (n := q) (m := 1) (by omega) (by omega) (by omega)).mono ?_ (fun _ _ h => h.elim)))
  rintro _ H2 ⟨r2, ds2, ga2, c2, es2, rfl, a2, x2, lt2, sem2, len2, kept2⟩
  have l2 := x2.len
  refine WpOps.ps rfl trivial ?_
  refine WpOps.consG rfl rfl (WpO.call rfl rfl rfl ((bdd_and a2 hv (n := r2) (m := m) (by omega) (by omega) (by omega)).mono ?_ (fun _ _ h => h.elim)))
  rintro _ H3 ⟨r3, ds3, ga3, c3, es3, rfl, a3, x3, lt3, sem3, len3, kept3⟩
  have l3 := x3.len
  refine WpOps.consG rfl rfl (WpO.call rfl rfl rfl ((bdd_xor a3 hv (n := r1) (m := r3) (by omega) (by omega) (by omega)).mono ?_ (fun _ _ h => h.elim)))
  rintro _ H4 ⟨r4, ds4, ga4, c4, es4, rfl, a4, x4, lt4, sem4, len4, kept4⟩
  refine WpOps.ps rfl trivial (WpOps.nil ?_)
  refine WpC.ret ?_
  refine VEnds.ret2 rfl rfl rfl ⟨r4, ds4, ga4, c4, es4, rfl, a4, x1.trans (x2.trans (x3.trans x4)), lt4, fun s => ?_, by omega, ((kept1.trans kept2 a1.stay).trans kept3 a2.stay).trans kept4 a3.stay⟩
  dsimp only at sem1 sem2 sem3 sem4 ⊢
  rw [sem4, x3.sem a2.wf _ _ (by omega), x2.sem a1.wf _ _ lt1, sem1, sem3, sem2, x2.sem a1.wf m _ (by omega), x1.sem a.wf _ _ hq, x1.sem a.wf _ _ hm, sem_one]
  cases sem ds q s <;> cases sem ds n s <;> cases sem ds m s <;> rfl

theorem bdd_Var {H : Heap} {v : Nat} {ds : List Dec} {g ga c gm : Nat} {es : List (Value × AV)} (a : InA H v ds g ga c gm es) {i : Int} (hlen : ds.length ≤ 900000) :
    TCall Try.prog 24 [pA g, .lit (.int .i64 i)] H (fun x H' => if 0 ≤ i ∧ i < v then Makes v g gm ds ga H 1 (fun s => s i.toNat) (fun r => eA (iA r) 0) x H' else x = eA (iA 0) 1 ∧ H' = H) noE := by
  have h2 := a.wf.two
  refine TCall.body Try.func24 rfl rfl ?_
  refine WpC.seqR (WpOps.ps rfl trivial (WpOps.nil ?_))
  refine WpC.seq ?_
  refine WpC.seqR ?_
  refine WpOps.cutB 10 15 (.lit (.bool (decide (¬ (0 ≤ i ∧ i < v))))) rfl ?_ ?_
  · refine WpOps.pn 3 rfl trivial ?_
    refine WpOps.split 8 rfl ?_ ?_
    · intro h
      refine WpOps.ps rfl trivial (WpOps.nil ⟨?_, rfl⟩)
      have h : i < 0 := by simpa using h
      exact congrArg (fun b => AV.lit (.bool b)) (decide_eq_true (p := ¬ (0 ≤ i ∧ i < (v : Int))) (fun h2 => by omega)).symm
    · intro h
      have h : ¬ i < 0 := by simpa using h
      refine WpOps.ps rfl trivial ?_
      refine WpOps.consE rfl rfl (Exact.load rfl rfl a.box rfl rfl) ?_
      refine WpOps.ps rfl trivial (WpOps.nil ⟨?_, rfl⟩)
      exact congrArg (fun b => AV.lit (.bool b)) (decide_eq_decide.2 (by omega))
  intro env0
  refine WpOps.nil ?_
  refine WpC.condP rfl ?_ ?_
  · intro hb
    refine WpC.seqR (WpOps.ps rfl trivial (WpOps.nil ?_))
    refine WpC.ret ?_
    refine VEnds.ret2 rfl rfl rfl ?_
    rw [if_neg hb]; exact ⟨rfl, rfl⟩
  · intro hb
    have hb : 0 ≤ i ∧ i < v := Decidable.of_not_not hb
    obtain ⟨i, rfl⟩ : ∃ k : Nat, i = k := ⟨i.toNat, by omega⟩
    have hiv : i < v := by omega
    have m : Made v ds i 0 1 := ⟨by omega, by omega, hiv, by rw [nm_low a.wf (by omega)]; exact hiv, by rw [nm_low a.wf (by omega)]; exact hiv⟩
    obtain ⟨w3, x3, lt3, len3, nm3, sem3⟩ := made_good a.wf m
    refine WpC.skip ?_
    refine WpC.seqR ?_
    refine WpOps.ps rfl trivial ?_
    refine WpOps.consG rfl rfl (WpO.call rfl rfl rfl ((bdd_made a m (by omega)).mono ?_ (fun _ _ h => h.elim)))
    rintro _ H3 ⟨rfl, ga3, c3, es3, a3, kept3⟩
    refine WpOps.ps rfl trivial (WpOps.nil ?_)
    refine WpC.ret ?_
    refine VEnds.ret2 rfl rfl rfl ?_
    rw [if_pos hb]
    exact ⟨_, _, ga3, c3, es3, rfl, a3, x3, lt3, fun s => by rw [sem3, sem_one, sem_zero]; show _ = s (Int.toNat (i : Int)); rw [Int.toNat_natCast]; cases s i <;> rfl, len3, kept3⟩
end Go.Proofs.Ytkhgiieglpdejaa
