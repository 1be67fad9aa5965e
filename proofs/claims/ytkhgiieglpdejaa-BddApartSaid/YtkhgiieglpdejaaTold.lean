/-
  A condition with a name told; a new arena.
-/
import Derived.Test.YtkhgiieglpdejaaOnly
set_option linter.unusedVariables false
set_option linter.unusedSimpArgs false
namespace Go.Proofs.Ytkhgiieglpdejaa
open Go Go.Vc Go.Vc.Bdd
attribute [local irreducible] WpC WpOps WpPi WpO Exact TCall VEnds

/-- what the closure of Restrict has taken up -/
structure Clr (H : Heap) (g i : Nat) (to : Bool) (gb gi gt gw : Nat) : Prop where
  box : H gb = some (.cells 27 [pA g])
  name : H gi = some (.cells 3 [iA i])
  to : H gt = some (.cells 4 [.lit (.bool to)])
  work : H gw = some (.cells 75 [.clo (.func 37) [] [pA gb, pA gi, pA gt, pA gw]])
theorem Clr.kept {H H' : Heap} {v : Nat} {ds : List Dec} {g ga c gm i : Nat} {to : Bool} {es : List (Value × AV)} {gb gi gt gw ga' : Nat} (k : Clr H g i to gb gi gt gw) (a : InA H v ds g ga c gm es) (h : Kept (SA g gm) H ga ga' H') : Clr H' g i to gb gi gt gw := by
  have far : ∀ q t cs, H q = some (.cells t cs) → t ≠ 69 → H' q = some (.cells t cs) := fun q t cs hq ht => by
    refine h.keep q _ hq (fun e => ?_) (fun hS => ?_)
    · rw [e, a.row] at hq; cases hq
    · rcases hS with e | e
      · rw [e, a.box] at hq; injection hq with hq; injection hq with h1 h2; exact ht h1.symm
      · rw [e, a.map] at hq; cases hq
  exact ⟨far _ _ _ k.box (by decide), far _ _ _ k.name (by decide), far _ _ _ k.to (by decide), far _ _ _ k.work (by decide)⟩
theorem Clr.le {H H' : Heap} {g i : Nat} {to : Bool} {gb gi gt gw : Nat} (k : Clr H g i to gb gi gt gw) (h : H.le H') : Clr H' g i to gb gi gt gw := ⟨h _ _ k.box, h _ _ k.name, h _ _ k.to, h _ _ k.work⟩
theorem Kept.of_le {S : Nat → Prop} {H H' : Heap} {ga : Nat} (h : H.le H') : Kept S H ga ga H' := ⟨fun k o hk _ _ => h k o hk, .inl rfl⟩

theorem bdd_told {v g gm i : Nat} {to : Bool} {gb gi gt gw : Nat} (hi : i < v) : ∀ (k n : Nat) (ds : List Dec) (H : Heap) (ga c : Nat) (es : List (Value × AV)), n < ds.length → v ≤ nm v ds n + k → ds.length + 2 ^ k ≤ 1000000 →
    InA H v ds g ga c gm es → Clr H g i to gb gi gt gw →
    TCall Try.prog 37 [iA n, pA gb, pA gi, pA gt, pA gw] H (fun x H' => ∃ r ds' ga' c' es', x = iA r ∧ InA H' v ds' g ga' c' gm es' ∧ Ext ds ds' ∧ r < ds'.length ∧ (∀ s, sem ds' r s = sem ds n (upd s i to)) ∧ nm v ds n ≤ nm v ds' r ∧ ds'.length + 1 ≤ ds.length + 2 ^ k ∧ Kept (SA g gm) H ga ga' H') noE := by
  intro k
  induction k using Nat.strongRecOn with
  | _ k ih =>
    intro n ds H ga c es hn hk hlen a q
    have h1k : 1 ≤ 2 ^ k := Nat.one_le_two_pow
    obtain ⟨d, hd⟩ : ∃ d, ds[n]? = some d := ⟨_, List.getElem?_eq_getElem hn⟩
    have en : nm v ds n = d.name := nm_some hd
    refine TCall.body Try.func37 rfl rfl ?_
    refine WpC.seqR (WpOps.ps rfl trivial (WpOps.nil ?_))
    refine WpC.seqR ?_
    refine WpOps.consE rfl rfl (Exact.load rfl rfl q.box rfl rfl) ?_
    refine WpOps.ps rfl trivial ?_
    refine WpOps.consE rfl rfl (Exact.load rfl rfl a.box rfl rfl) ?_
    refine WpOps.ps rfl trivial ?_
    refine WpOps.consE rfl rfl (Exact.indexAddr_buf (size := 3) rfl rfl rfl hn rfl rfl (by decide)) ?_
    refine WpOps.consE rfl rfl (Exact.load_row (i := n) (f := 0) rfl rfl a.row rfl (by decide) (at_dec hd) rfl) ?_
    refine WpOps.consG rfl rfl (WpO.alloc rfl rfl fun gd hgd => ?_)
    refine WpOps.consG rfl rfl (WpO.init rfl rfl rfl rfl rfl rfl rfl rfl rfl ?_)
    refine WpOps.nil ?_
    obtain ⟨H1, e1⟩ : ∃ H1, H1 = H.set gd (.cells 72 (encD d)) := ⟨_, rfl⟩
    refine WpC.heap e1.symm ?_
    have b1 : H1 gd = some (.cells 72 (encD d)) := by rw [e1]; exact Heap.set_same _ _ _
    have hle1 : H.le H1 := by rw [e1]; exact Heap.set_drop hgd _
    have a1 := a.le hle1
    have q1 := q.le hle1
    have kept1 : Kept (SA g gm) H ga ga H1 := .of_le hle1
    refine WpC.seq ?_
    refine WpC.block ?_
    refine WpC.seqR ?_
    refine WpOps.cutB 9 17 (.lit (.bool (decide (n < 2 ∨ i < d.name)))) rfl ?_ ?_
    · refine WpOps.pn 3 rfl trivial ?_
      refine WpOps.split 20 rfl ?_ ?_
      · intro h
        refine WpOps.ps rfl trivial (WpOps.nil ⟨?_, rfl⟩)
        have h : (n : Int) < 2 := by simpa using h
        exact congrArg (fun b => AV.lit (.bool b)) (decide_eq_true (p := n < 2 ∨ i < d.name) (.inl (by omega))).symm
      · intro h
        have h : ¬ (n : Int) < 2 := by simpa using h
        refine WpOps.ps rfl trivial ?_
        refine WpOps.consE rfl rfl (Exact.load rfl rfl b1 rfl rfl) ?_
        refine WpOps.consE rfl rfl (Exact.load rfl rfl q1.name rfl rfl) ?_
        refine WpOps.ps rfl trivial (WpOps.nil ⟨?_, rfl⟩)
        exact congrArg (fun b => AV.lit (.bool b)) (decide_eq_decide.2 (by show (i : Int) < d.name ↔ _; omega))
    intro env0
    refine WpOps.nil ?_
    refine WpC.condP rfl ?_ ?_
    · intro hc
      refine WpC.seqR (WpOps.ps rfl trivial (WpOps.nil ?_))
      refine WpC.ret ?_
      refine VEnds.ret1 rfl rfl ?_
      have hin : i < nm v ds n := by
        rcases hc with hc | hc
        · rw [nm_low a.wf (by omega)]; exact hi
        · omega
      exact ⟨n, ds, ga, c, es, rfl, a1, .refl _, hn, fun s => (sem_upd a.wf hn hin s to).symm, Nat.le_refl _, by omega, kept1⟩
    · intro hc
      have h2 : 2 ≤ n := by omega
      have f := a.wf.fine n d h2 hd
      have f1 := f.off
      have f2 := f.on
      have f3 := f.name
      have f4 := f.offn
      have f5 := f.onn
      refine WpC.seqR ?_
      refine WpOps.ps rfl trivial ?_
      refine WpOps.consE rfl rfl (Exact.load rfl rfl b1 rfl rfl) ?_
      refine WpOps.consE rfl rfl (Exact.load rfl rfl q1.name rfl rfl) ?_
      refine WpOps.ps rfl trivial (WpOps.nil ?_)
      refine WpC.condP rfl ?_ ?_
      · intro he
        have he : d.name = i := Int.ofNat_inj.1 he
        obtain ⟨ln, lnn, lns⟩ := sem_side a1.wf (on := to) hd (name := i) (by omega) hi
        refine WpC.seqR ?_
        refine WpOps.consE rfl rfl (Exact.load rfl rfl q1.box rfl rfl) ?_
        refine WpOps.ps rfl trivial ?_
        refine WpOps.consE rfl rfl (Exact.load rfl rfl q1.name rfl rfl) ?_
        refine WpOps.consE rfl rfl (Exact.load rfl rfl q1.to rfl rfl) ?_
        refine WpOps.consE rfl rfl (Exact.call rfl rfl rfl (bdd_side a1 (name := i) (on := to) hd)) ?_
        refine WpOps.ps rfl trivial (WpOps.nil ?_)
        refine WpC.ret ?_
        refine VEnds.ret1 rfl rfl ?_
        exact ⟨_, ds, ga, c, es, rfl, a1, .refl _, ln, lns, by omega, by omega, kept1⟩
      · intro he
        have he : d.name < i := by have : ¬ d.name = i := fun h => he (by rw [h])
                                   omega
        obtain ⟨k, rfl⟩ : ∃ j, k = j + 1 := ⟨k - 1, by omega⟩
        have hpk : 2 ^ (k + 1) = 2 ^ k + 2 ^ k := by rw [Nat.pow_succ]; omega
        have h1k : 1 ≤ 2 ^ k := Nat.one_le_two_pow
        have loff : d.off < ds.length := by omega
        have lon : d.on < ds.length := by omega
        refine WpC.skip ?_
        refine WpC.seqR ?_
        refine WpOps.consE rfl rfl (Exact.load rfl rfl q1.work rfl rfl) ?_
        refine WpOps.ps rfl trivial ?_
        refine WpOps.consE rfl rfl (Exact.load rfl rfl b1 rfl rfl) ?_
        refine WpOps.consG rfl rfl (WpO.call_clo rfl rfl rfl rfl ((ih k (by omega) d.off ds H1 ga c es loff (by omega) (by omega) a1 q1).mono ?_ (fun _ _ h => h.elim)))
        rintro _ H2 ⟨r2, ds2, ga2, c2, es2, rfl, a2, x2, lt2, sem2, nm2, len2, kept2⟩
        have q2 := q1.kept a1 kept2
        have b2 : H2 gd = some (.cells 72 (encD d)) := kept2.keep _ _ b1 (fun e => by have := b1; rw [e, a1.row] at this; cases this) (fun hS => by
          rcases hS with e | e
          · have := b1; rw [e, a1.box] at this; cases this
          · have := b1; rw [e, a1.map] at this; cases this)
        have l2 := x2.len
        refine WpOps.ps rfl trivial (WpOps.nil ?_)
        refine WpC.seqR ?_
        refine WpOps.consE rfl rfl (Exact.load rfl rfl q2.work rfl rfl) ?_
        refine WpOps.ps rfl trivial ?_
        refine WpOps.consE rfl rfl (Exact.load rfl rfl b2 rfl rfl) ?_
        refine WpOps.consG rfl rfl (WpO.call_clo rfl rfl rfl rfl ((ih k (by omega) d.on ds2 H2 ga2 c2 es2 (by omega) (by rw [x2.nm lon]; omega) (by omega) a2 q2).mono ?_ (fun _ _ h => h.elim)))
        rintro _ H3 ⟨r3, ds3, ga3, c3, es3, rfl, a3, x3, lt3, sem3, nm3, len3, kept3⟩
        have q3 := q2.kept a2 kept3
        have b3 : H3 gd = some (.cells 72 (encD d)) := kept3.keep _ _ b2 (fun e => by have := b2; rw [e, a2.row] at this; cases this) (fun hS => by
          rcases hS with e | e
          · have := b2; rw [e, a2.box] at this; cases this
          · have := b2; rw [e, a2.map] at this; cases this)
        have l3 := x3.len
        rw [x2.nm lon] at nm3
        have m4 : Made v ds3 d.name r2 r3 := ⟨by omega, lt3, f3, by rw [x3.nm lt2]; omega, by omega⟩
        obtain ⟨w4, x4, lt4, len4, nm4, sem4⟩ := made_good a3.wf m4
        refine WpOps.ps rfl trivial (WpOps.nil ?_)
        refine WpC.seqR ?_
        refine WpOps.consE rfl rfl (Exact.load rfl rfl q3.box rfl rfl) ?_
        refine WpOps.ps rfl trivial ?_
        refine WpOps.consE rfl rfl (Exact.load rfl rfl b3 rfl rfl) ?_
        refine WpOps.ps rfl trivial ?_
        refine WpOps.consG rfl rfl (WpO.call rfl rfl rfl ((bdd_made a3 m4 (by omega)).mono ?_ (fun _ _ h => h.elim)))
        rintro _ H4 ⟨rfl, ga4, c4, es4, a4, kept4⟩
        refine WpOps.ps rfl trivial (WpOps.nil ?_)
        refine WpC.ret ?_
        refine VEnds.ret1 rfl rfl ?_
        refine ⟨_, _, ga4, c4, es4, rfl, a4, x2.trans (x3.trans x4), lt4, fun s => ?_, by omega, by omega, ((kept1.trans kept2 a1.stay).trans kept3 a2.stay).trans kept4 a3.stay⟩
        rw [sem4, sem_step a.wf h2 hd]
        have e : upd s i to d.name = s d.name := by simp [upd]; intro h; omega
        rw [e]
        cases s d.name with
        | true => simp only [if_true]; rw [sem3, x2.sem a.wf _ _ lon]
        | false => simp only [Bool.false_eq_true, if_false]; rw [x3.sem a2.wf _ _ lt2, sem2]

theorem bdd_Restrict {H : Heap} {v : Nat} {ds : List Dec} {g ga c gm : Nat} {es : List (Value × AV)} (a : InA H v ds g ga c gm es) (hv : v ≤ 8) (n i : Int) (to : Bool) (hlen : ds.length ≤ 900000) :
    TCall Try.prog 25 [pA g, .lit (.int .i64 n), .lit (.int .i64 i), .lit (.bool to)] H (fun x H' => if 0 ≤ n ∧ n < ds.length then (if 0 ≤ i ∧ i < v then Makes v g gm ds ga H 256 (fun s => sem ds n.toNat (upd s i.toNat to)) (fun r => eA (iA r) 0) x H' else x = eA (iA 0) 1 ∧ H' = H) else x = eA (iA 0) 10 ∧ H' = H) noE := by
  have h8 := pow8 hv
  refine TCall.up (TCall.body Try.func25 rfl rfl ?_)
  refine WpC.seqR ?_
  refine WpOps.consG rfl rfl (WpO.box rfl rfl fun gb hgb => ?_)
  refine WpOps.consG rfl rfl (WpO.box rfl rfl fun gi hgi => ?_)
  refine WpOps.consG rfl rfl (WpO.box rfl rfl fun gt hgt => ?_)
  refine WpOps.ps rfl trivial (WpOps.nil ?_)
  obtain ⟨H1, e1⟩ : ∃ H1, H1 = H.set gb (.cells 27 [pA g]) := ⟨_, rfl⟩
  obtain ⟨H2, e2⟩ : ∃ H2, H2 = H1.set gi (.cells 3 [.lit (.int .i64 i)]) := ⟨_, rfl⟩
  obtain ⟨H3, e3⟩ : ∃ H3, H3 = H2.set gt (.cells 4 [.lit (.bool to)]) := ⟨_, rfl⟩
  have hgi : H1 gi = none := by rw [e1]; exact hgi
  have hgt : H2 gt = none := by rw [e2, e1]; exact hgt
  refine WpC.heap (show _ = H3 from by rw [e3, e2, e1]; rfl) ?_
  have le1 : H.le H1 := by rw [e1]; exact Heap.set_drop hgb _
  have le2 : H1.le H2 := by rw [e2]; exact Heap.set_drop hgi _
  have le3 : H2.le H3 := by rw [e3]; exact Heap.set_drop hgt _
  have le : H.le H3 := Heap.le_trans le1 (Heap.le_trans le2 le3)
  have b1 : H3 gb = some (.cells 27 [pA g]) := le3 _ _ (le2 _ _ (by rw [e1]; exact Heap.set_same _ _ _))
  have b2 : H3 gi = some (.cells 3 [.lit (.int .i64 i)]) := le3 _ _ (by rw [e2]; exact Heap.set_same _ _ _)
  have b3 : H3 gt = some (.cells 4 [.lit (.bool to)]) := by rw [e3]; exact Heap.set_same _ _ _
  have a3 := a.le le
  refine WpC.seq ?_
  refine WpC.block ?_
  refine WpC.seqR ?_
  refine WpOps.consE rfl rfl (Exact.load rfl rfl b1 rfl rfl) ?_
  refine WpOps.ps rfl trivial ?_
  refine WpOps.consE rfl rfl (Exact.litSlice rfl rfl) ?_
  refine WpOps.consE rfl rfl (Exact.call rfl rfl rfl (bdd_right a3 [n] (by simp) (by omega))) ?_
  refine WpOps.at 15 (congrArg (fun b => AV.lit (.bool b)) (right1 ds.length n)) ?_
  refine WpOps.ps rfl trivial (WpOps.nil ?_)
  refine WpC.condN rfl ?_ ?_
  · intro hc
    refine WpC.seqR (WpOps.ps rfl trivial (WpOps.nil ?_))
    refine WpC.ret ?_
    refine VEnds.ret2 rfl rfl rfl ?_
    refine ⟨_, _, Up.drop le _, ?_⟩
    rw [if_neg hc]; exact ⟨rfl, rfl⟩
  · intro hc
    refine WpC.seqD [.S, .I, .I, .S, .S, .I, .I, .S] [0, 1, 2, 3, 4, 5, 6, 7, 8, 9, 10] (by kernel_rfl) (by kernel_rfl) ?_
    refine WpPi.cutB 11 17 (.lit (.bool (decide (¬ (0 ≤ i ∧ i < v))))) rfl ?_ ?_
    · refine WpPi.consS rfl rfl rfl rfl (Exact.load rfl rfl b2 rfl rfl) ?_
      refine WpPi.pn 2 rfl trivial ?_
      refine WpPi.split 20 rfl ?_ ?_
      · intro h
        refine WpPi.skip rfl (by decide) rfl rfl ?_
        refine WpPi.skip rfl (by decide) rfl rfl ?_
        refine WpPi.ps rfl trivial ?_
        refine WpPi.skip rfl (by decide) rfl rfl ?_
        refine WpPi.ps rfl trivial (WpPi.nil ?_)
        refine ⟨?_, rfl⟩
        have h : i < 0 := by simpa using h
        exact congrArg (fun b => AV.lit (.bool b)) (decide_eq_true (p := ¬ (0 ≤ i ∧ i < (v : Int))) (fun h2 => by omega)).symm
      · intro h
        have h : ¬ i < 0 := by simpa using h
        refine WpPi.consS rfl rfl rfl rfl (Exact.load rfl rfl b2 rfl rfl) ?_
        refine WpPi.consS rfl rfl rfl rfl (Exact.load rfl rfl b1 rfl rfl) ?_
        refine WpPi.ps rfl trivial ?_
        refine WpPi.consS rfl rfl rfl rfl (Exact.load rfl rfl a3.box rfl rfl) ?_
        refine WpPi.ps rfl trivial (WpPi.nil ⟨?_, rfl⟩)
        exact congrArg (fun b => AV.lit (.bool b)) (decide_eq_decide.2 (by omega))
    intro env0
    refine WpPi.nil ?_
    refine WpC.condP rfl ?_ ?_
    · intro hb
      refine WpC.seqR (WpOps.ps rfl trivial (WpOps.nil ?_))
      refine WpC.ret ?_
      refine VEnds.ret2 rfl rfl rfl ?_
      refine ⟨_, _, Up.drop le _, ?_⟩
      rw [if_pos hc, if_neg hb]; exact ⟨rfl, rfl⟩
    · intro hb
      have hb : 0 ≤ i ∧ i < v := Decidable.of_not_not hb
      obtain ⟨n, rfl⟩ : ∃ k : Nat, n = k := ⟨n.toNat, by omega⟩
      obtain ⟨i, rfl⟩ : ∃ k : Nat, i = k := ⟨i.toNat, by omega⟩
      refine WpC.skip ?_
      refine WpC.seqR ?_
      refine WpOps.consG rfl rfl (WpO.alloc rfl rfl fun gw hgw => ?_)
      refine WpOps.nil ?_
      refine WpC.seqR ?_
      refine WpOps.ps rfl trivial ?_
      refine WpOps.consG rfl rfl (WpO.init rfl rfl rfl rfl rfl rfl rfl rfl rfl ?_)
      refine WpOps.nil ?_
      obtain ⟨H4, e4⟩ : ∃ H4, H4 = H3.set gw (.cells 75 [.clo (.func 37) [] [pA gb, pA gi, pA gt, pA gw]]) := ⟨_, rfl⟩
      refine WpC.heap e4.symm ?_
      have le4 : H3.le H4 := by rw [e4]; exact Heap.set_drop hgw _
      have b4 : H4 gw = some (.cells 75 [.clo (.func 37) [] [pA gb, pA gi, pA gt, pA gw]]) := by rw [e4]; exact Heap.set_same _ _ _
      have q4 : Clr H4 g i to gb gi gt gw := ⟨le4 _ _ b1, le4 _ _ b2, le4 _ _ b3, b4⟩
      refine WpC.seqR ?_
      refine WpOps.consE rfl rfl (Exact.load rfl rfl b4 rfl rfl) ?_
      refine WpOps.ps rfl trivial ?_
      refine WpOps.consG rfl rfl (WpO.call_clo rfl rfl rfl rfl ((bdd_told (by omega) v n ds H4 ga c es (by omega) (by omega) (by omega) (a3.le le4) q4).mono ?_ (fun _ _ h => h.elim)))
      rintro _ H5 ⟨r, ds', ga', c', es', rfl, a5, x5, lt5, sem5, nm5, len5, kept5⟩
      refine WpOps.ps rfl trivial (WpOps.nil ?_)
      refine WpC.ret ?_
      refine VEnds.ret2 rfl rfl rfl ?_
      refine ⟨_, _, Up.refl _ _, ?_⟩
      rw [if_pos hc, if_pos hb]
      have le5 : H.le H4 := Heap.le_trans le le4
      exact ⟨r, ds', ga', c', es', rfl, a5, x5, lt5, sem5, by omega, ⟨fun k o hk h1 h2 => kept5.keep k o (le5 _ _ hk) h1 h2, kept5.fresh.imp id (fun h => Heap.le_none le5 h)⟩⟩

/-- a new arena -/
theorem bdd_New {v : Int} (H : Heap) : TCall Try.prog 29 [.lit (.int .i64 v)] H (fun x H' => if 0 ≤ v ∧ v ≤ 8 then ∃ g ga c gm, x = eA (pA g) 0 ∧ InA H' v.toNat [⟨v.toNat, 0, 0⟩, ⟨v.toNat, 0, 0⟩] g ga c gm [] ∧ H.le H' ∧ H g = none ∧ H ga = none ∧ H gm = none else x = eA (.lit (.pointer none)) 1 ∧ H' = H) noE := by
  refine TCall.body Try.func29 rfl rfl ?_
  refine WpC.seqR (WpOps.ps rfl trivial (WpOps.nil ?_))
  refine WpC.seq ?_
  refine WpC.seqR ?_
  refine WpOps.cutB 6 10 (.lit (.bool (decide (¬ (0 ≤ v ∧ v ≤ 8))))) rfl ?_ ?_
  · refine WpOps.pn 3 rfl trivial ?_
    refine WpOps.split 7 rfl ?_ ?_
    · intro h
      refine WpOps.ps rfl trivial (WpOps.nil ⟨?_, rfl⟩)
      have h : v < 0 := by simpa using h
      exact congrArg (fun b => AV.lit (.bool b)) (decide_eq_true (p := ¬ (0 ≤ v ∧ v ≤ 8)) (fun h2 => by omega)).symm
    · intro h
      have h : ¬ v < 0 := by simpa using h
      refine WpOps.ps rfl trivial (WpOps.nil ⟨?_, rfl⟩)
      exact congrArg (fun b => AV.lit (.bool b)) (decide_eq_decide.2 (by show (8 : Int) < v ↔ _; omega))
  intro env0
  refine WpOps.nil ?_
  refine WpC.condP rfl ?_ ?_
  · intro hc
    refine WpC.seqR (WpOps.ps rfl trivial (WpOps.nil ?_))
    refine WpC.ret ?_
    refine VEnds.ret2 rfl rfl rfl ?_
    rw [if_neg hc]; exact ⟨rfl, rfl⟩
  · intro hc
    have hc : 0 ≤ v ∧ v ≤ 8 := Decidable.of_not_not hc
    obtain ⟨v, rfl⟩ : ∃ k : Nat, v = k := ⟨v.toNat, by omega⟩
    refine WpC.skip ?_
    refine WpC.seqR ?_
    refine WpOps.ps rfl trivial ?_
    refine WpOps.consG rfl rfl (WpO.alloc rfl rfl fun gl hgl => ?_)
    refine WpOps.consG rfl rfl (WpO.init rfl rfl rfl rfl rfl rfl rfl rfl rfl ?_)
    refine WpOps.nil ?_
    obtain ⟨H1, e1⟩ : ∃ H1, H1 = H.set gl (.cells 72 (encD ⟨v, 0, 0⟩)) := ⟨_, rfl⟩
    refine WpC.heap e1.symm ?_
    have b1 : H1 gl = some (.cells 72 (encD ⟨v, 0, 0⟩)) := by rw [e1]; exact Heap.set_same _ _ _
    have le1 : H.le H1 := by rw [e1]; exact Heap.set_drop hgl _
    refine WpC.seqR ?_
    refine WpOps.ps rfl trivial ?_
    refine WpOps.consE rfl rfl (Exact.load rfl rfl b1 rfl rfl) ?_
    refine WpOps.consE rfl rfl (Exact.load rfl rfl b1 rfl rfl) ?_
    refine WpOps.consG rfl rfl (WpO.litSlice (e := 72) rfl rfl rfl fun ga hga => ?_)
    refine WpOps.consG rfl rfl (WpO.makeMap rfl fun gm hgm => ?_)
    refine WpOps.ps rfl trivial ?_
    refine WpOps.consG rfl rfl (WpO.box rfl rfl fun g hg => ?_)
    refine WpOps.ps rfl trivial (WpOps.nil ?_)
    refine WpC.ret ?_
    refine VEnds.ret2 rfl rfl rfl ?_
    rw [if_pos hc]
    refine ⟨g, ga, 2, gm, rfl, ⟨Heap.set_same _ _ _, Heap.set_old (Heap.set_old (Heap.set_same _ _ _) hgm) hg, Heap.set_old (Heap.set_same _ _ _) hg, (fun e he => by cases he), (fun d => ?_), ?_⟩, ?_, ?_, Heap.le_none le1 hga, ?_⟩
    · rfl
    · refine ⟨rfl, rfl, fun n d hn hd => ?_, fun i j d hi hj h1 h2 => ?_⟩
      · have := (List.getElem?_eq_some_iff.1 hd).1; simp at this; omega
      · have := (List.getElem?_eq_some_iff.1 h1).1; simp at this; omega
    · exact Heap.le_trans le1 (Heap.le_trans (Heap.set_drop hga _) (Heap.le_trans (Heap.set_drop hgm _) (Heap.set_drop hg _)))
    · exact Heap.le_none (Heap.le_trans le1 (Heap.le_trans (Heap.set_drop hga _) (Heap.set_drop hgm _))) hg
    · exact Heap.le_none (Heap.le_trans le1 (Heap.set_drop hga _)) hgm
end Go.Proofs.Ytkhgiieglpdejaa
