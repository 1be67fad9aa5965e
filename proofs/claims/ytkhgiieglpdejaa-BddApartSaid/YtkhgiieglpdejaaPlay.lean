/-
  A world: an arena, the conditions that were told, their tables; an op that is played.
-/
import Derived.Test.YtkhgiieglpdejaaTold
set_option linter.unusedVariables false
set_option linter.unusedSimpArgs false
namespace Go.Proofs.Ytkhgiieglpdejaa
open Go Go.Vc Go.Vc.Bdd
attribute [local irreducible] WpC WpOps WpPi WpO Exact TCall VEnds

theorem bdd_Var' {H : Heap} {v : Nat} {ds : List Dec} {g ga c gm : Nat} {es : List (Value × AV)} (a : InA H v ds g ga c gm es) {i : Nat} (hi : i < v) (hlen : ds.length ≤ 900000) :
    TCall Try.prog 24 [pA g, iA i] H (Makes v g gm ds ga H 1 (fun s => s i) (fun r => eA (iA r) 0)) noE := by
  have h := bdd_Var a (i := (i : Int)) hlen
  exact h.mono (fun x H' k => by rw [if_pos (by omega)] at k; exact k) (fun _ _ k => k)
theorem bdd_Restrict' {H : Heap} {v : Nat} {ds : List Dec} {g ga c gm : Nat} {es : List (Value × AV)} (a : InA H v ds g ga c gm es) (hv : v ≤ 8) {n i : Nat} (to : Bool) (hn : n < ds.length) (hi : i < v) (hlen : ds.length ≤ 900000) :
    TCall Try.prog 25 [pA g, iA n, iA i, .lit (.bool to)] H (Makes v g gm ds ga H 256 (fun s => sem ds n (upd s i to)) (fun r => eA (iA r) 0)) noE := by
  have h := bdd_Restrict a hv (n : Int) (i : Int) to hlen
  exact h.mono (fun x H' k => by rw [if_pos (by omega), if_pos (by omega)] at k; exact k) (fun _ _ k => k)

theorem semT_ext {v : Nat} {ds ds' : List Dec} (x : Ext ds ds') (w : WF v ds) {n : Nat} (hn : n < ds.length) : semT ds' n = semT ds n := by
  funext s; exact x.sem w n _ hn

theorem clearBit (n i : Nat) (h : n.testBit i = true) (j : Nat) : (n - 2 ^ i).testBit j = if j = i then false else n.testBit j := by
  obtain ⟨a, r, hr, rfl⟩ : ∃ a r, r < 2 ^ i ∧ n = 2 ^ i * a + r := ⟨n / 2 ^ i, n % 2 ^ i, Nat.mod_lt _ (Nat.two_pow_pos i), (Nat.div_add_mod n (2 ^ i)).symm⟩
  rw [Nat.testBit_two_pow_mul_add _ hr, if_neg (by omega), Nat.sub_self] at h
  have ha : a % 2 = 1 := by simpa [Nat.testBit_zero] using h
  obtain ⟨q, rfl⟩ : ∃ q, a = 2 * q + 1 := ⟨a / 2, by omega⟩
  have e : 2 ^ i * (2 * q + 1) + r - 2 ^ i = 2 ^ i * (2 * q) + r := by rw [Nat.mul_add, Nat.mul_one]; omega
  rw [e, Nat.testBit_two_pow_mul_add _ hr, Nat.testBit_two_pow_mul_add _ hr]
  by_cases h1 : j < i
  · rw [if_pos h1, if_pos h1, if_neg (by omega)]
  · rw [if_neg h1, if_neg h1]
    by_cases h2 : j = i
    · subst h2; rw [Nat.sub_self, if_pos rfl]; simp [Nat.testBit_zero]
    · obtain ⟨k, hk⟩ : ∃ k, j - i = k + 1 := ⟨j - i - 1, by omega⟩
      rw [if_neg h2, hk, Nat.testBit_succ, Nat.testBit_succ]
      congr 1; omega

theorem testBit_withBit (s i : Nat) (to : Bool) (j : Nat) : (withBit s i to).testBit j = if j = i then to else s.testBit j := by
  have hor : ∀ j, (s ||| 2 ^ i).testBit j = (s.testBit j || decide (i = j)) := fun j => by rw [Nat.testBit_or, Nat.testBit_two_pow]
  cases to with
  | true =>
    show (s ||| 2 ^ i).testBit j = _
    rw [hor]
    by_cases h : j = i
    · simp [h]
    · simp [h, Ne.symm h]
  | false =>
    show ((s ||| 2 ^ i) - 2 ^ i).testBit j = _
    rw [clearBit _ _ (by rw [hor]; simp), hor]
    by_cases h : j = i
    · simp [h]
    · simp [h, Ne.symm h]
theorem asg_withBit (s i : Nat) (to : Bool) : asg (withBit s i to) = upd (asg s) i to := by
  funext j
  show (withBit s i to).testBit j = _
  rw [testBit_withBit]; rfl

def encT (v : Nat) (ds : List Dec) (n : Nat) : List AV := [tb (2 ^ v) (semT ds n)]
/-- a world in memory -/
structure InW (H : Heap) (v : Nat) (ds : List Dec) (ns : List Nat) (gw g ga c gm : Nat) (es : List (Value × AV)) (gl cl gt ct : Nat) : Prop where
  ar : InA H v ds g ga c gm es
  box : H gw = some (.cells 31 [pA g, iA v, .own ns.length (some (gl, cl)), .own ns.length (some (gt, ct))])
  l : H gl = some (.row 35 1 (ns.map nA) cl)
  t : H gt = some (.row 39 1 (ns.map (encT v ds)) ct)
  lt : ∀ n ∈ ns, n < ds.length
section w
variable {H H' : Heap} {v : Nat} {ds ds' : List Dec} {ns : List Nat} {gw g ga c gm ga' c' : Nat} {es es' : List (Value × AV)} {gl cl gt ct : Nat}
theorem InA.farC (a : InA H v ds g ga c gm es) {q t : Nat} {cs : List AV} (hq : H q = some (.cells t cs)) (ht : t ≠ 69) (h : Kept (SA g gm) H ga ga' H') : H' q = some (.cells t cs) := by
  refine h.keep q _ hq (fun e => ?_) (fun hS => ?_)
  · rw [e, a.row] at hq; cases hq
  · rcases hS with e | e
    · rw [e, a.box] at hq; injection hq with hq; injection hq with h1 h2; exact ht h1.symm
    · rw [e, a.map] at hq; cases hq
theorem InA.farR (a : InA H v ds g ga c gm es) {q t s k : Nat} {cs : List (List AV)} (hq : H q = some (.row t s cs k)) (ht : t ≠ 72) (h : Kept (SA g gm) H ga ga' H') : H' q = some (.row t s cs k) := by
  refine h.keep q _ hq (fun e => ?_) (fun hS => ?_)
  · rw [e, a.row] at hq; injection hq with hq; injection hq with h1 h2; exact ht h1.symm
  · rcases hS with e | e
    · rw [e, a.box] at hq; cases hq
    · rw [e, a.map] at hq; cases hq
theorem InW.kept (w : InW H v ds ns gw g ga c gm es gl cl gt ct) (a' : InA H' v ds' g ga' c' gm es') (x : Ext ds ds') (h : Kept (SA g gm) H ga ga' H') : InW H' v ds' ns gw g ga' c' gm es' gl cl gt ct := by
  refine ⟨a', w.ar.farC w.box (by decide) h, w.ar.farR w.l (by decide) h, ?_, fun n hn => Nat.lt_of_lt_of_le (w.lt n hn) x.len⟩
  rw [w.ar.farR w.t (by decide) h]
  congr 2
  exact List.map_congr_left fun n hn => by unfold encT; rw [semT_ext x w.ar.wf (w.lt n hn)]
theorem InW.le (w : InW H v ds ns gw g ga c gm es gl cl gt ct) (h : H.le H') : InW H' v ds ns gw g ga c gm es gl cl gt ct := ⟨w.ar.le h, h _ _ w.box, h _ _ w.l, h _ _ w.t, w.lt⟩
end w

def opA (Do A B C N : Int) (to : Bool) : AV := .agg [.lit (.int .i64 Do), .lit (.int .i64 A), .lit (.int .i64 B), .lit (.int .i64 C), .lit (.int .i64 N), .lit (.bool to)]

/-- what an op tells: nothing; or a condition and its table -/
def PlayR (H : Heap) (v : Nat) (ds : List Dec) (ns : List Nat) (gw g ga gm gl cl gt ct : Nat) (x : AV) (H' : Heap) : Prop :=
  (x = .tup [iA 0, .own 0 none, .lit (.bool false)] ∧ H' = H) ∨
  ∃ r ds' ga' c' es', x = .tup [iA r, tb (2 ^ v) (semT ds' r), .lit (.bool true)] ∧ InW H' v ds' ns gw g ga' c' gm es' gl cl gt ct ∧ Ext ds ds' ∧ r < ds'.length ∧ ds'.length ≤ ds.length + 1024 ∧ Kept (SA g gm) H ga ga' H'

theorem tb_eq {n : Nat} {f g : Nat → Bool} (h : ∀ s, f s = g s) : tb n f = tb n g := congrArg (tb n) (funext h)

theorem law_play {H : Heap} {v : Nat} {ds : List Dec} {ns : List Nat} {gw g ga c gm : Nat} {es : List (Value × AV)} {gl cl gt ct : Nat} (w : InW H v ds ns gw g ga c gm es gl cl gt ct) (hv : v ≤ 8) (hns : 0 < ns.length) (hlen : ds.length ≤ 700000) {Do A B C N : Int} {to : Bool} (hA : inR .i64 A) (hB : inR .i64 B) (hC : inR .i64 C) :
    TCall Try.prog 26 [pA gw, opA Do A B C N to] H (PlayR H v ds ns gw g ga gm gl cl gt ct) noE := by
  have h8 := pow8 hv
  refine TCall.up (TCall.body Try.func26 rfl rfl ?_)
  obtain ⟨i, ei⟩ : ∃ i, pickOf A ns.length = i := ⟨_, rfl⟩
  obtain ⟨j, ej⟩ : ∃ i, pickOf B ns.length = i := ⟨_, rfl⟩
  obtain ⟨k, ek⟩ : ∃ i, pickOf C ns.length = i := ⟨_, rfl⟩
  have li : i < ns.length := ei ▸ pickOf_lt hns
  have lj : j < ns.length := ej ▸ pickOf_lt hns
  have lk : k < ns.length := ek ▸ pickOf_lt hns
  obtain ⟨n1, hi⟩ : ∃ n, ns[i]? = some n := ⟨_, List.getElem?_eq_getElem li⟩
  obtain ⟨n2, hj⟩ : ∃ n, ns[j]? = some n := ⟨_, List.getElem?_eq_getElem lj⟩
  obtain ⟨n3, hk⟩ : ∃ n, ns[k]? = some n := ⟨_, List.getElem?_eq_getElem lk⟩
  have m1 := w.lt n1 (List.mem_of_getElem? hi)
  have m2 := w.lt n2 (List.mem_of_getElem? hj)
  have m3 := w.lt n3 (List.mem_of_getElem? hk)
  refine WpC.seqR ?_
  refine WpOps.consG rfl rfl (WpO.box rfl rfl fun gO hgO => ?_)
  refine WpOps.ps rfl trivial (WpOps.nil ?_)
  obtain ⟨H0, e0⟩ : ∃ H0, H0 = H.set gO (.cells 56 [.lit (.int .i64 Do), .lit (.int .i64 A), .lit (.int .i64 B), .lit (.int .i64 C), .lit (.int .i64 N), .lit (.bool to)]) := ⟨_, rfl⟩
  refine WpC.heap e0.symm ?_
  have hle : H.le H0 := by rw [e0]; exact Heap.set_drop hgO _
  have bO : H0 gO = some (.cells 56 [.lit (.int .i64 Do), .lit (.int .i64 A), .lit (.int .i64 B), .lit (.int .i64 C), .lit (.int .i64 N), .lit (.bool to)]) := by rw [e0]; exact Heap.set_same _ _ _
  have w0 := w
  have w := w.le hle
  have wO := w.ar
  refine WpC.seqD [.I, .S, .I, .I, .I, .S, .I, .S] [0, 1, 2, 3, 4, 5, 6, 7, 8] (by kernel_rfl) (by kernel_rfl) ?_
  refine WpPi.ps rfl trivial ?_
  refine WpPi.consS rfl rfl rfl rfl (Exact.load rfl rfl bO rfl rfl) ?_
  refine WpPi.ps rfl trivial ?_
  refine WpPi.consS rfl rfl rfl rfl (Exact.load rfl rfl w.box rfl rfl) ?_
  refine WpPi.ps rfl trivial ?_
  refine WpPi.consS rfl rfl rfl rfl (Exact.call rfl rfl rfl (law_pick hA hns _)) ?_
  refine WpPi.ps rfl trivial (WpPi.nil ?_)
  refine WpC.at 7 (congrArg (fun z : Nat => iA z) ei) ?_
  refine WpC.seqD [.I, .S, .I, .I, .I, .S, .I, .S] [0, 1, 2, 3, 4, 5, 6, 7, 8] (by kernel_rfl) (by kernel_rfl) ?_
  refine WpPi.ps rfl trivial ?_
  refine WpPi.consS rfl rfl rfl rfl (Exact.load rfl rfl bO rfl rfl) ?_
  refine WpPi.ps rfl trivial ?_
  refine WpPi.consS rfl rfl rfl rfl (Exact.load rfl rfl w.box rfl rfl) ?_
  refine WpPi.ps rfl trivial ?_
  refine WpPi.consS rfl rfl rfl rfl (Exact.call rfl rfl rfl (law_pick hB hns _)) ?_
  refine WpPi.ps rfl trivial (WpPi.nil ?_)
  refine WpC.at 8 (congrArg (fun z : Nat => iA z) ej) ?_
  refine WpC.seqD [.I, .S, .I, .I, .I, .S, .I, .S] [0, 1, 2, 3, 4, 5, 6, 7, 8] (by kernel_rfl) (by kernel_rfl) ?_
  refine WpPi.ps rfl trivial ?_
  refine WpPi.consS rfl rfl rfl rfl (Exact.load rfl rfl bO rfl rfl) ?_
  refine WpPi.ps rfl trivial ?_
  refine WpPi.consS rfl rfl rfl rfl (Exact.load rfl rfl w.box rfl rfl) ?_
  refine WpPi.ps rfl trivial ?_
  refine WpPi.consS rfl rfl rfl rfl (Exact.call rfl rfl rfl (law_pick hC hns _)) ?_
  refine WpPi.ps rfl trivial (WpPi.nil ?_)
  refine WpC.at 9 (congrArg (fun z : Nat => iA z) ek) ?_
  refine WpC.seqR ?_
  refine WpOps.ps rfl trivial ?_
  refine WpOps.consE rfl rfl (Exact.load rfl rfl w.box rfl rfl) ?_
  refine WpOps.consE rfl rfl (Exact.call rfl rfl rfl (ref_same hv _)) ?_
  refine WpOps.ps rfl trivial (WpOps.nil ?_)
  refine WpC.seqR ?_
  refine WpOps.ps rfl trivial ?_
  refine WpOps.consE rfl rfl (Exact.load rfl rfl w.box rfl rfl) ?_
  refine WpOps.consE rfl rfl (Exact.call rfl rfl rfl (ref_same hv _)) ?_
  refine WpOps.ps rfl trivial (WpOps.nil ?_)
  refine WpC.seqR (WpOps.ps rfl trivial (WpOps.nil ?_))
  refine WpC.seqR (WpOps.ps rfl trivial (WpOps.nil ?_))
  refine WpC.seqR (WpOps.ps rfl trivial (WpOps.nil ?_))
  refine WpC.seqK (fun s : Nat × List Dec => [(12, iA s.1), (13, iA 0), (14, tb (2 ^ v) (semT s.2 s.1))]) (fun s H' => ∃ ga' c' es', InW H' v s.2 ns gw g ga' c' gm es' gl cl gt ct ∧ Ext ds s.2 ∧ s.1 < s.2.length ∧ s.2.length ≤ ds.length + 1024 ∧ Kept (SA g gm) H ga ga' H') ?_ ?_
  · refine WpC.seqR ?_
    refine WpOps.ps rfl trivial ?_
    refine WpOps.consE rfl rfl (Exact.load rfl rfl bO rfl rfl) ?_
    refine WpOps.nil ?_
    refine WpC.block ?_
    refine WpC.seqR (WpOps.ps rfl trivial (WpOps.nil ?_))
    refine WpC.condP rfl ?_ ?_
    · intro hc
      refine WpC.seq ?_
      refine WpC.seqD [.I, .S, .I, .I, .I, .S, .I, .I, .I, .S] [0, 1, 2, 3, 4, 5, 6, 7, 8, 9, 10, 11] (by kernel_rfl) (by kernel_rfl) ?_
      refine WpPi.cutB 12 64 (.lit (.bool (decide (¬ (0 ≤ N ∧ N < v))))) rfl ?_ ?_
      · refine WpPi.ps rfl trivial ?_
        refine WpPi.consS rfl rfl rfl rfl (Exact.load rfl rfl bO rfl rfl) ?_
        refine WpPi.pn 2 rfl trivial ?_
        refine WpPi.split 56 rfl ?_ ?_
        · intro h
          refine WpPi.ps rfl trivial ?_
          refine WpPi.skip rfl (by decide) rfl rfl ?_
          refine WpPi.ps rfl trivial ?_
          refine WpPi.skip rfl (by decide) rfl rfl ?_
          refine WpPi.ps rfl trivial (WpPi.nil ?_)
          refine ⟨?_, rfl⟩
          have h : N < 0 := by simpa using h
          exact congrArg (fun b => AV.lit (.bool b)) (decide_eq_true (p := ¬ (0 ≤ N ∧ N < (v : Int))) (fun h2 => by omega)).symm
        · intro h
          have h : ¬ N < 0 := by simpa using h
          refine WpPi.ps rfl trivial ?_
          refine WpPi.consS rfl rfl rfl rfl (Exact.load rfl rfl bO rfl rfl) ?_
          refine WpPi.ps rfl trivial ?_
          refine WpPi.consS rfl rfl rfl rfl (Exact.load rfl rfl w.box rfl rfl) ?_
          refine WpPi.ps rfl trivial (WpPi.nil ?_)
          refine ⟨?_, rfl⟩
          exact congrArg (fun b => AV.lit (.bool b)) (decide_eq_decide.2 (by omega))
      intro env0
      refine WpPi.nil ?_
      refine WpC.condP rfl ?_ ?_   -- t64
      · intro hc
        refine WpC.seqR (WpOps.ps rfl trivial (WpOps.nil ?_))
        refine WpC.ret ?_
        refine VEnds.ret3 rfl rfl rfl rfl ?_
        exact ⟨_, _, Up.drop hle _, .inl ⟨rfl, rfl⟩⟩
      · intro hc
        have hN : 0 ≤ N ∧ N < v := Decidable.of_not_not hc
        obtain ⟨N, rfl⟩ : ∃ k : Nat, N = k := ⟨N.toNat, by omega⟩
        have hN : N < v := by omega
        refine WpC.skip ?_
        refine WpC.seqD [.I, .I, .I, .S, .I, .S, .E] [0, 1, 2, 3, 4, 5, 6, 7, 8, 9, 10, 11] (by kernel_rfl) (by kernel_rfl) ?_
        refine WpPi.ps rfl trivial ?_
        refine WpPi.consS rfl rfl rfl rfl (Exact.load rfl rfl w.box rfl rfl) ?_
        refine WpPi.ps rfl trivial ?_
        refine WpPi.consS rfl rfl rfl rfl (Exact.load rfl rfl bO rfl rfl) ?_
        refine WpPi.consE rfl rfl rfl rfl (WpO.call rfl rfl rfl ((bdd_Var' w.ar (i := N) hN (by omega)).mono ?_ (fun _ _ h => h.elim)))
        rintro _ H1 ⟨r, ds1, ga1, c1, es1, rfl, a1, x1, lt1, sem1, len1, kept1⟩
        have w := w.kept a1 x1 kept1
        have bO := wO.farC bO (by decide) kept1
        refine WpPi.ps rfl trivial (WpPi.nil ?_)
        refine WpC.draw [.I, .I, .I, .S, .I, .S, .S] [0, 1, 2, 3, 4, 5, 6, 7] (by kernel_rfl) (by kernel_rfl) ?_
        refine WpPi.ps rfl trivial ?_
        refine WpPi.consS rfl rfl rfl rfl (Exact.load rfl rfl w.box rfl rfl) ?_
        refine WpPi.ps rfl trivial ?_
        refine WpPi.consS rfl rfl rfl rfl (Exact.load rfl rfl bO rfl rfl) ?_
        refine WpPi.consS rfl rfl rfl rfl (Exact.call rfl rfl rfl (ref_var hv (by omega) _)) ?_
        refine WpPi.ps rfl trivial (WpPi.nil ?_)
        refine ⟨(r, ds1), ⟨rfl, rfl, tb_eq fun s => ?_, trivial⟩, ga1, c1, es1, w, x1, lt1, by show ds1.length ≤ _; omega, ⟨fun k o hk h1 h2 => kept1.keep k o (hle k o hk) h1 h2, kept1.fresh.imp id (fun h => Heap.le_none hle h)⟩⟩
        show s.testBit N = sem ds1 r (asg s)
        rw [sem1]
        rfl
    · intro hc
      refine WpC.seqR (WpOps.ps rfl trivial (WpOps.nil ?_))
      refine WpC.condP rfl ?_ ?_
      · intro hc
        refine WpC.seqD [.I, .I, .I, .S, .I, .I, .I, .S, .I, .I, .S, .E] [0, 1, 2, 3, 4, 5, 6, 7, 8, 9, 10, 11, 12, 13, 14, 15, 16] (by kernel_rfl) (by kernel_rfl) ?_
        refine WpPi.ps rfl trivial ?_
        refine WpPi.consS rfl rfl rfl rfl (Exact.load rfl rfl w.box rfl rfl) ?_
        refine WpPi.ps rfl trivial ?_
        refine WpPi.consS rfl rfl rfl rfl (Exact.load rfl rfl w.box rfl rfl) ?_
        refine WpPi.ps rfl trivial ?_
        refine WpPi.consI rfl rfl rfl rfl (fun _ => Exact.indexAddr_buf (size := 1) rfl rfl rfl li rfl rfl (by decide)) ?_
        refine WpPi.consS rfl rfl rfl rfl (Exact.load_row (i := i) (f := 0) rfl rfl w.l rfl (by decide) (map_at hi) rfl) ?_
        refine WpPi.consE rfl rfl rfl rfl (WpO.call rfl rfl rfl ((bdd_Not w.ar hv m1 (by omega)).mono ?_ (fun _ _ h => h.elim)))
        rintro _ H1 ⟨r, ds1, ga1, c1, es1, rfl, a1, x1, lt1, sem1, len1, kept1⟩
        have w := w.kept a1 x1 kept1
        have bO := wO.farC bO (by decide) kept1
        refine WpPi.ps rfl trivial (WpPi.nil ?_)
        refine WpC.region ?_
        refine WpOps.ps rfl trivial ?_
        refine WpOps.consE rfl rfl (Exact.load rfl rfl w.box rfl rfl) ?_
        refine WpOps.ps rfl trivial ?_
        refine WpOps.consE rfl rfl (Exact.indexAddr_buf (size := 1) rfl rfl rfl li rfl rfl (by decide)) ?_
        refine WpOps.consE rfl rfl (Exact.load_row (i := i) (f := 0) rfl rfl w.t rfl (by decide) (map_at hi) rfl) ?_
        refine WpOps.ps rfl trivial ?_
        refine WpOps.consE rfl rfl (Exact.call rfl rfl rfl (ref_ite h8 _)) ?_
        refine WpOps.ps rfl trivial (WpOps.nil ?_)
        refine ⟨(r, ds1), ⟨rfl, rfl, tb_eq fun s => ?_, trivial⟩, ga1, c1, es1, w, x1, lt1, by show ds1.length ≤ _; omega, ⟨fun k o hk h1 h2 => kept1.keep k o (hle k o hk) h1 h2, kept1.fresh.imp id (fun h => Heap.le_none hle h)⟩⟩
        show (if semT ds1 n1 s then false else true) = sem ds1 r (asg s)
        dsimp only at sem1
        rw [sem1, semT_ext x1 w0.ar.wf m1]
        show (if sem ds n1 (asg s) then false else true) = _
        cases sem ds n1 (asg s) <;> rfl
      · intro hc
        refine WpC.seqR (WpOps.ps rfl trivial (WpOps.nil ?_))
        refine WpC.condP rfl ?_ ?_
        · intro hc
          refine WpC.seqD [.I, .I, .I, .S, .I, .I, .I, .S, .I, .I, .S, .I, .I, .I, .S, .I, .I, .S, .E] [0, 1, 2, 3, 4, 5, 6, 7, 8, 9, 10, 11, 12, 13, 14, 15, 16, 17, 18, 19, 20, 21, 22, 23] (by kernel_rfl) (by kernel_rfl) ?_
          refine WpPi.ps rfl trivial ?_
          refine WpPi.consS rfl rfl rfl rfl (Exact.load rfl rfl w.box rfl rfl) ?_
          refine WpPi.ps rfl trivial ?_
          refine WpPi.consS rfl rfl rfl rfl (Exact.load rfl rfl w.box rfl rfl) ?_
          refine WpPi.ps rfl trivial ?_
          refine WpPi.consI rfl rfl rfl rfl (fun _ => Exact.indexAddr_buf (size := 1) rfl rfl rfl li rfl rfl (by decide)) ?_
          refine WpPi.consS rfl rfl rfl rfl (Exact.load_row (i := i) (f := 0) rfl rfl w.l rfl (by decide) (map_at hi) rfl) ?_
          refine WpPi.ps rfl trivial ?_
          refine WpPi.consS rfl rfl rfl rfl (Exact.load rfl rfl w.box rfl rfl) ?_
          refine WpPi.ps rfl trivial ?_
          refine WpPi.consI rfl rfl rfl rfl (fun _ => Exact.indexAddr_buf (size := 1) rfl rfl rfl lj rfl rfl (by decide)) ?_
          refine WpPi.consS rfl rfl rfl rfl (Exact.load_row (i := j) (f := 0) rfl rfl w.l rfl (by decide) (map_at hj) rfl) ?_
          refine WpPi.consE rfl rfl rfl rfl (WpO.call rfl rfl rfl ((bdd_And w.ar hv m1 m2 (by omega)).mono ?_ (fun _ _ h => h.elim)))
          rintro _ H1 ⟨r, ds1, ga1, c1, es1, rfl, a1, x1, lt1, sem1, len1, kept1⟩
          have w := w.kept a1 x1 kept1
          have bO := wO.farC bO (by decide) kept1
          refine WpPi.ps rfl trivial (WpPi.nil ?_)
          refine WpC.draw [.I, .I, .I, .S, .I, .I, .S, .I, .I, .I, .S, .I, .I, .S, .I, .S] [0, 1, 2, 3, 4, 5, 6, 7, 8, 9, 10, 11, 12, 13, 14, 15, 16] (by kernel_rfl) (by kernel_rfl) ?_
          refine WpPi.ps rfl trivial ?_
          refine WpPi.consS rfl rfl rfl rfl (Exact.load rfl rfl w.box rfl rfl) ?_
          refine WpPi.ps rfl trivial ?_
          refine WpPi.consI rfl rfl rfl rfl (fun _ => Exact.indexAddr_buf (size := 1) rfl rfl rfl li rfl rfl (by decide)) ?_
          refine WpPi.consS rfl rfl rfl rfl (Exact.load_row (i := i) (f := 0) rfl rfl w.t rfl (by decide) (map_at hi) rfl) ?_
          refine WpPi.ps rfl trivial ?_
          refine WpPi.consS rfl rfl rfl rfl (Exact.load rfl rfl w.box rfl rfl) ?_
          refine WpPi.ps rfl trivial ?_
          refine WpPi.consI rfl rfl rfl rfl (fun _ => Exact.indexAddr_buf (size := 1) rfl rfl rfl lj rfl rfl (by decide)) ?_
          refine WpPi.consS rfl rfl rfl rfl (Exact.load_row (i := j) (f := 0) rfl rfl w.t rfl (by decide) (map_at hj) rfl) ?_
          refine WpPi.ps rfl trivial ?_
          refine WpPi.consS rfl rfl rfl rfl (Exact.call rfl rfl rfl (ref_ite h8 _)) ?_
          refine WpPi.ps rfl trivial (WpPi.nil ?_)
          refine ⟨(r, ds1), ⟨rfl, rfl, tb_eq fun s => ?_, trivial⟩, ga1, c1, es1, w, x1, lt1, by show ds1.length ≤ _; omega, ⟨fun k o hk h1 h2 => kept1.keep k o (hle k o hk) h1 h2, kept1.fresh.imp id (fun h => Heap.le_none hle h)⟩⟩
          show (if semT ds1 n1 s then semT ds1 n2 s else false) = sem ds1 r (asg s)
          dsimp only at sem1
          rw [sem1, semT_ext x1 w0.ar.wf m1, semT_ext x1 w0.ar.wf m2]
          show (if sem ds n1 (asg s) then sem ds n2 (asg s) else false) = _
          cases sem ds n1 (asg s) <;> rfl
        · intro hc
          refine WpC.seqR (WpOps.ps rfl trivial (WpOps.nil ?_))
          refine WpC.condP rfl ?_ ?_
          · intro hc
            refine WpC.seqD [.I, .I, .I, .S, .I, .I, .I, .S, .I, .I, .S, .I, .I, .I, .S, .I, .I, .S, .E] [0, 1, 2, 3, 4, 5, 6, 7, 8, 9, 10, 11, 12, 13, 14, 15, 16, 17, 18, 19, 20, 21, 22, 23] (by kernel_rfl) (by kernel_rfl) ?_
            refine WpPi.ps rfl trivial ?_
            refine WpPi.consS rfl rfl rfl rfl (Exact.load rfl rfl w.box rfl rfl) ?_
            refine WpPi.ps rfl trivial ?_
            refine WpPi.consS rfl rfl rfl rfl (Exact.load rfl rfl w.box rfl rfl) ?_
            refine WpPi.ps rfl trivial ?_
            refine WpPi.consI rfl rfl rfl rfl (fun _ => Exact.indexAddr_buf (size := 1) rfl rfl rfl li rfl rfl (by decide)) ?_
            refine WpPi.consS rfl rfl rfl rfl (Exact.load_row (i := i) (f := 0) rfl rfl w.l rfl (by decide) (map_at hi) rfl) ?_
            refine WpPi.ps rfl trivial ?_
            refine WpPi.consS rfl rfl rfl rfl (Exact.load rfl rfl w.box rfl rfl) ?_
            refine WpPi.ps rfl trivial ?_
            refine WpPi.consI rfl rfl rfl rfl (fun _ => Exact.indexAddr_buf (size := 1) rfl rfl rfl lj rfl rfl (by decide)) ?_
            refine WpPi.consS rfl rfl rfl rfl (Exact.load_row (i := j) (f := 0) rfl rfl w.l rfl (by decide) (map_at hj) rfl) ?_
            refine WpPi.consE rfl rfl rfl rfl (WpO.call rfl rfl rfl ((bdd_Or w.ar hv m1 m2 (by omega)).mono ?_ (fun _ _ h => h.elim)))
            rintro _ H1 ⟨r, ds1, ga1, c1, es1, rfl, a1, x1, lt1, sem1, len1, kept1⟩
            have w := w.kept a1 x1 kept1
            have bO := wO.farC bO (by decide) kept1
            refine WpPi.ps rfl trivial (WpPi.nil ?_)
            refine WpC.draw [.I, .I, .I, .S, .I, .I, .S, .I, .I, .I, .I, .S, .I, .I, .S, .S] [0, 1, 2, 3, 4, 5, 6, 7, 8, 9, 10, 11, 12, 13, 14, 15, 16] (by kernel_rfl) (by kernel_rfl) ?_
            refine WpPi.ps rfl trivial ?_
            refine WpPi.consS rfl rfl rfl rfl (Exact.load rfl rfl w.box rfl rfl) ?_
            refine WpPi.ps rfl trivial ?_
            refine WpPi.consI rfl rfl rfl rfl (fun _ => Exact.indexAddr_buf (size := 1) rfl rfl rfl li rfl rfl (by decide)) ?_
            refine WpPi.consS rfl rfl rfl rfl (Exact.load_row (i := i) (f := 0) rfl rfl w.t rfl (by decide) (map_at hi) rfl) ?_
            refine WpPi.ps rfl trivial ?_
            refine WpPi.consS rfl rfl rfl rfl (Exact.load rfl rfl w.box rfl rfl) ?_
            refine WpPi.ps rfl trivial ?_
            refine WpPi.consI rfl rfl rfl rfl (fun _ => Exact.indexAddr_buf (size := 1) rfl rfl rfl lj rfl rfl (by decide)) ?_
            refine WpPi.consS rfl rfl rfl rfl (Exact.load_row (i := j) (f := 0) rfl rfl w.t rfl (by decide) (map_at hj) rfl) ?_
            refine WpPi.consS rfl rfl rfl rfl (Exact.call rfl rfl rfl (ref_ite h8 _)) ?_
            refine WpPi.ps rfl trivial (WpPi.nil ?_)
            refine ⟨(r, ds1), ⟨rfl, rfl, tb_eq fun s => ?_, trivial⟩, ga1, c1, es1, w, x1, lt1, by show ds1.length ≤ _; omega, ⟨fun k o hk h1 h2 => kept1.keep k o (hle k o hk) h1 h2, kept1.fresh.imp id (fun h => Heap.le_none hle h)⟩⟩
            show (if semT ds1 n1 s then true else semT ds1 n2 s) = sem ds1 r (asg s)
            dsimp only at sem1
            rw [sem1, semT_ext x1 w0.ar.wf m1, semT_ext x1 w0.ar.wf m2]
            show (if sem ds n1 (asg s) then true else sem ds n2 (asg s)) = _
            cases sem ds n1 (asg s) <;> rfl
          · intro hc
            refine WpC.seqR (WpOps.ps rfl trivial (WpOps.nil ?_))
            refine WpC.condP rfl ?_ ?_
            · intro hc
              refine WpC.seqD [.I, .I, .I, .S, .I, .I, .I, .S, .I, .I, .S, .I, .I, .I, .S, .I, .I, .S, .E] [0, 1, 2, 3, 4, 5, 6, 7, 8, 9, 10, 11, 12, 13, 14, 15, 16, 17, 18, 19, 20, 21, 22, 23] (by kernel_rfl) (by kernel_rfl) ?_
              refine WpPi.ps rfl trivial ?_
              refine WpPi.consS rfl rfl rfl rfl (Exact.load rfl rfl w.box rfl rfl) ?_
              refine WpPi.ps rfl trivial ?_
              refine WpPi.consS rfl rfl rfl rfl (Exact.load rfl rfl w.box rfl rfl) ?_
              refine WpPi.ps rfl trivial ?_
              refine WpPi.consI rfl rfl rfl rfl (fun _ => Exact.indexAddr_buf (size := 1) rfl rfl rfl li rfl rfl (by decide)) ?_
              refine WpPi.consS rfl rfl rfl rfl (Exact.load_row (i := i) (f := 0) rfl rfl w.l rfl (by decide) (map_at hi) rfl) ?_
              refine WpPi.ps rfl trivial ?_
              refine WpPi.consS rfl rfl rfl rfl (Exact.load rfl rfl w.box rfl rfl) ?_
              refine WpPi.ps rfl trivial ?_
              refine WpPi.consI rfl rfl rfl rfl (fun _ => Exact.indexAddr_buf (size := 1) rfl rfl rfl lj rfl rfl (by decide)) ?_
              refine WpPi.consS rfl rfl rfl rfl (Exact.load_row (i := j) (f := 0) rfl rfl w.l rfl (by decide) (map_at hj) rfl) ?_
              refine WpPi.consE rfl rfl rfl rfl (WpO.call rfl rfl rfl ((bdd_Xor w.ar hv m1 m2 (by omega)).mono ?_ (fun _ _ h => h.elim)))
              rintro _ H1 ⟨r, ds1, ga1, c1, es1, rfl, a1, x1, lt1, sem1, len1, kept1⟩
              have w := w.kept a1 x1 kept1
              have bO := wO.farC bO (by decide) kept1
              refine WpPi.ps rfl trivial (WpPi.nil ?_)
              refine WpC.draw [.I, .I, .I, .S, .I, .I, .S, .I, .I, .I, .S, .I, .I, .S, .I, .I, .S, .I, .I, .I, .S, .I, .I, .S, .S] [0, 1, 2, 3, 4, 5, 6, 7, 8, 9, 10, 11, 12, 13, 14, 15, 16, 17, 18, 19, 20, 21, 22, 23, 24, 25] (by kernel_rfl) (by kernel_rfl) ?_
              refine WpPi.ps rfl trivial ?_
              refine WpPi.consS rfl rfl rfl rfl (Exact.load rfl rfl w.box rfl rfl) ?_
              refine WpPi.ps rfl trivial ?_
              refine WpPi.consI rfl rfl rfl rfl (fun _ => Exact.indexAddr_buf (size := 1) rfl rfl rfl li rfl rfl (by decide)) ?_
              refine WpPi.consS rfl rfl rfl rfl (Exact.load_row (i := i) (f := 0) rfl rfl w.t rfl (by decide) (map_at hi) rfl) ?_
              refine WpPi.ps rfl trivial ?_
              refine WpPi.consS rfl rfl rfl rfl (Exact.load rfl rfl w.box rfl rfl) ?_
              refine WpPi.ps rfl trivial ?_
              refine WpPi.consI rfl rfl rfl rfl (fun _ => Exact.indexAddr_buf (size := 1) rfl rfl rfl lj rfl rfl (by decide)) ?_
              refine WpPi.consS rfl rfl rfl rfl (Exact.load_row (i := j) (f := 0) rfl rfl w.t rfl (by decide) (map_at hj) rfl) ?_
              refine WpPi.ps rfl trivial ?_
              refine WpPi.consS rfl rfl rfl rfl (Exact.call rfl rfl rfl (ref_ite h8 _)) ?_
              refine WpPi.ps rfl trivial ?_
              refine WpPi.consS rfl rfl rfl rfl (Exact.load rfl rfl w.box rfl rfl) ?_
              refine WpPi.ps rfl trivial ?_
              refine WpPi.consI rfl rfl rfl rfl (fun _ => Exact.indexAddr_buf (size := 1) rfl rfl rfl lj rfl rfl (by decide)) ?_
              refine WpPi.consS rfl rfl rfl rfl (Exact.load_row (i := j) (f := 0) rfl rfl w.t rfl (by decide) (map_at hj) rfl) ?_
              refine WpPi.consS rfl rfl rfl rfl (Exact.call rfl rfl rfl (ref_ite h8 _)) ?_
              refine WpPi.ps rfl trivial (WpPi.nil ?_)
              refine ⟨(r, ds1), ⟨rfl, rfl, tb_eq fun s => ?_, trivial⟩, ga1, c1, es1, w, x1, lt1, by show ds1.length ≤ _; omega, ⟨fun k o hk h1 h2 => kept1.keep k o (hle k o hk) h1 h2, kept1.fresh.imp id (fun h => Heap.le_none hle h)⟩⟩
              show (if semT ds1 n1 s then (if semT ds1 n2 s then false else true) else semT ds1 n2 s) = sem ds1 r (asg s)
              dsimp only at sem1
              rw [sem1, semT_ext x1 w0.ar.wf m1, semT_ext x1 w0.ar.wf m2]
              show (if sem ds n1 (asg s) then (if sem ds n2 (asg s) then false else true) else sem ds n2 (asg s)) = _
              cases sem ds n1 (asg s) <;> cases sem ds n2 (asg s) <;> rfl
            · intro hc
              refine WpC.seqR (WpOps.ps rfl trivial (WpOps.nil ?_))
              refine WpC.condP rfl ?_ ?_
              · intro hc
                refine WpC.seqD [.I, .I, .I, .S, .I, .I, .I, .S, .I, .I, .S, .I, .I, .I, .S, .I, .I, .S, .I, .I, .I, .S, .I, .I, .S, .E] [0, 1, 2, 3, 4, 5, 6, 7, 8, 9, 10, 11, 12, 13, 14, 15, 16, 17, 18, 19, 20, 21, 22, 23, 24, 25, 26, 27, 28, 29, 30] (by kernel_rfl) (by kernel_rfl) ?_
                refine WpPi.ps rfl trivial ?_
                refine WpPi.consS rfl rfl rfl rfl (Exact.load rfl rfl w.box rfl rfl) ?_
                refine WpPi.ps rfl trivial ?_
                refine WpPi.consS rfl rfl rfl rfl (Exact.load rfl rfl w.box rfl rfl) ?_
                refine WpPi.ps rfl trivial ?_
                refine WpPi.consI rfl rfl rfl rfl (fun _ => Exact.indexAddr_buf (size := 1) rfl rfl rfl li rfl rfl (by decide)) ?_
                refine WpPi.consS rfl rfl rfl rfl (Exact.load_row (i := i) (f := 0) rfl rfl w.l rfl (by decide) (map_at hi) rfl) ?_
                refine WpPi.ps rfl trivial ?_
                refine WpPi.consS rfl rfl rfl rfl (Exact.load rfl rfl w.box rfl rfl) ?_
                refine WpPi.ps rfl trivial ?_
                refine WpPi.consI rfl rfl rfl rfl (fun _ => Exact.indexAddr_buf (size := 1) rfl rfl rfl lj rfl rfl (by decide)) ?_
                refine WpPi.consS rfl rfl rfl rfl (Exact.load_row (i := j) (f := 0) rfl rfl w.l rfl (by decide) (map_at hj) rfl) ?_
                refine WpPi.ps rfl trivial ?_
                refine WpPi.consS rfl rfl rfl rfl (Exact.load rfl rfl w.box rfl rfl) ?_
                refine WpPi.ps rfl trivial ?_
                refine WpPi.consI rfl rfl rfl rfl (fun _ => Exact.indexAddr_buf (size := 1) rfl rfl rfl lk rfl rfl (by decide)) ?_
                refine WpPi.consS rfl rfl rfl rfl (Exact.load_row (i := k) (f := 0) rfl rfl w.l rfl (by decide) (map_at hk) rfl) ?_
                refine WpPi.consE rfl rfl rfl rfl (WpO.call rfl rfl rfl ((bdd_Ite w.ar hv m1 m2 m3 (by omega)).mono ?_ (fun _ _ h => h.elim)))
                rintro _ H1 ⟨r, ds1, ga1, c1, es1, rfl, a1, x1, lt1, sem1, len1, kept1⟩
                have w := w.kept a1 x1 kept1
                have bO := wO.farC bO (by decide) kept1
                refine WpPi.ps rfl trivial (WpPi.nil ?_)
                refine WpC.draw [.I, .I, .I, .S, .I, .I, .S, .I, .I, .I, .S, .I, .I, .S, .I, .I, .I, .S, .I, .I, .S, .S] [0, 1, 2, 3, 4, 5, 6, 7, 8, 9, 10, 11, 12, 13, 14, 15, 16, 17, 18, 19, 20, 21, 22] (by kernel_rfl) (by kernel_rfl) ?_
                refine WpPi.ps rfl trivial ?_
                refine WpPi.consS rfl rfl rfl rfl (Exact.load rfl rfl w.box rfl rfl) ?_
                refine WpPi.ps rfl trivial ?_
                refine WpPi.consI rfl rfl rfl rfl (fun _ => Exact.indexAddr_buf (size := 1) rfl rfl rfl li rfl rfl (by decide)) ?_
                refine WpPi.consS rfl rfl rfl rfl (Exact.load_row (i := i) (f := 0) rfl rfl w.t rfl (by decide) (map_at hi) rfl) ?_
                refine WpPi.ps rfl trivial ?_
                refine WpPi.consS rfl rfl rfl rfl (Exact.load rfl rfl w.box rfl rfl) ?_
                refine WpPi.ps rfl trivial ?_
                refine WpPi.consI rfl rfl rfl rfl (fun _ => Exact.indexAddr_buf (size := 1) rfl rfl rfl lj rfl rfl (by decide)) ?_
                refine WpPi.consS rfl rfl rfl rfl (Exact.load_row (i := j) (f := 0) rfl rfl w.t rfl (by decide) (map_at hj) rfl) ?_
                refine WpPi.ps rfl trivial ?_
                refine WpPi.consS rfl rfl rfl rfl (Exact.load rfl rfl w.box rfl rfl) ?_
                refine WpPi.ps rfl trivial ?_
                refine WpPi.consI rfl rfl rfl rfl (fun _ => Exact.indexAddr_buf (size := 1) rfl rfl rfl lk rfl rfl (by decide)) ?_
                refine WpPi.consS rfl rfl rfl rfl (Exact.load_row (i := k) (f := 0) rfl rfl w.t rfl (by decide) (map_at hk) rfl) ?_
                refine WpPi.consS rfl rfl rfl rfl (Exact.call rfl rfl rfl (ref_ite h8 _)) ?_
                refine WpPi.ps rfl trivial (WpPi.nil ?_)
                refine ⟨(r, ds1), ⟨rfl, rfl, tb_eq fun s => ?_, trivial⟩, ga1, c1, es1, w, x1, lt1, by show ds1.length ≤ _; omega, ⟨fun k o hk h1 h2 => kept1.keep k o (hle k o hk) h1 h2, kept1.fresh.imp id (fun h => Heap.le_none hle h)⟩⟩
                show (if semT ds1 n1 s then semT ds1 n2 s else semT ds1 n3 s) = sem ds1 r (asg s)
                dsimp only at sem1
                rw [sem1, semT_ext x1 w0.ar.wf m1, semT_ext x1 w0.ar.wf m2, semT_ext x1 w0.ar.wf m3]
                rfl
              · intro hc
                refine WpC.seqR (WpOps.ps rfl trivial (WpOps.nil ?_))
                refine WpC.condP rfl ?_ ?_
                · intro hc
                  refine WpC.seq ?_
                  refine WpC.seqD [.I, .S, .I, .I, .I, .S, .I, .I, .I, .S] [0, 1, 2, 3, 4, 5, 6, 7, 8, 9, 10, 11] (by kernel_rfl) (by kernel_rfl) ?_
                  refine WpPi.cutB 12 304 (.lit (.bool (decide (¬ (0 ≤ N ∧ N < v))))) rfl ?_ ?_
                  · refine WpPi.ps rfl trivial ?_
                    refine WpPi.consS rfl rfl rfl rfl (Exact.load rfl rfl bO rfl rfl) ?_
                    refine WpPi.pn 2 rfl trivial ?_
                    refine WpPi.split 296 rfl ?_ ?_
                    · intro h
                      refine WpPi.ps rfl trivial ?_
                      refine WpPi.skip rfl (by decide) rfl rfl ?_
                      refine WpPi.ps rfl trivial ?_
                      refine WpPi.skip rfl (by decide) rfl rfl ?_
                      refine WpPi.ps rfl trivial (WpPi.nil ?_)
                      refine ⟨?_, rfl⟩
                      have h : N < 0 := by simpa using h
                      exact congrArg (fun b => AV.lit (.bool b)) (decide_eq_true (p := ¬ (0 ≤ N ∧ N < (v : Int))) (fun h2 => by omega)).symm
                    · intro h
                      have h : ¬ N < 0 := by simpa using h
                      refine WpPi.ps rfl trivial ?_
                      refine WpPi.consS rfl rfl rfl rfl (Exact.load rfl rfl bO rfl rfl) ?_
                      refine WpPi.ps rfl trivial ?_
                      refine WpPi.consS rfl rfl rfl rfl (Exact.load rfl rfl w.box rfl rfl) ?_
                      refine WpPi.ps rfl trivial (WpPi.nil ?_)
                      refine ⟨?_, rfl⟩
                      exact congrArg (fun b => AV.lit (.bool b)) (decide_eq_decide.2 (by omega))
                  intro env0
                  refine WpPi.nil ?_
                  refine WpC.condP rfl ?_ ?_   -- t304
                  · intro hc
                    refine WpC.seqR (WpOps.ps rfl trivial (WpOps.nil ?_))
                    refine WpC.ret ?_
                    refine VEnds.ret3 rfl rfl rfl rfl ?_
                    exact ⟨_, _, Up.drop hle _, .inl ⟨rfl, rfl⟩⟩
                  · intro hc
                    have hN : 0 ≤ N ∧ N < v := Decidable.of_not_not hc
                    obtain ⟨N, rfl⟩ : ∃ k : Nat, N = k := ⟨N.toNat, by omega⟩
                    have hN : N < v := by omega
                    refine WpC.skip ?_
                    refine WpC.seqD [.I, .I, .I, .S, .I, .I, .I, .S, .I, .I, .S, .I, .S, .I, .S, .E] [0, 1, 2, 3, 4, 5, 6, 7, 8, 9, 10, 11, 12, 13, 14, 15, 16, 17, 18, 19, 20] (by kernel_rfl) (by kernel_rfl) ?_
                    refine WpPi.ps rfl trivial ?_
                    refine WpPi.consS rfl rfl rfl rfl (Exact.load rfl rfl w.box rfl rfl) ?_
                    refine WpPi.ps rfl trivial ?_
                    refine WpPi.consS rfl rfl rfl rfl (Exact.load rfl rfl w.box rfl rfl) ?_
                    refine WpPi.ps rfl trivial ?_
                    refine WpPi.consI rfl rfl rfl rfl (fun _ => Exact.indexAddr_buf (size := 1) rfl rfl rfl li rfl rfl (by decide)) ?_
                    refine WpPi.consS rfl rfl rfl rfl (Exact.load_row (i := i) (f := 0) rfl rfl w.l rfl (by decide) (map_at hi) rfl) ?_
                    refine WpPi.ps rfl trivial ?_
                    refine WpPi.consS rfl rfl rfl rfl (Exact.load rfl rfl bO rfl rfl) ?_
                    refine WpPi.ps rfl trivial ?_
                    refine WpPi.consS rfl rfl rfl rfl (Exact.load rfl rfl bO rfl rfl) ?_
                    refine WpPi.consE rfl rfl rfl rfl (WpO.call rfl rfl rfl ((bdd_Restrict' w.ar hv to m1 hN (by omega)).mono ?_ (fun _ _ h => h.elim)))
                    rintro _ H1 ⟨r, ds1, ga1, c1, es1, rfl, a1, x1, lt1, sem1, len1, kept1⟩
                    have w := w.kept a1 x1 kept1
                    have bO := wO.farC bO (by decide) kept1
                    refine WpPi.ps rfl trivial (WpPi.nil ?_)
                    refine WpC.draw [.I, .I, .I, .S, .I, .I, .S, .I, .S, .I, .S, .S] [0, 1, 2, 3, 4, 5, 6, 7, 8, 9, 10, 11, 12] (by kernel_rfl) (by kernel_rfl) ?_
                    refine WpPi.ps rfl trivial ?_
                    refine WpPi.consS rfl rfl rfl rfl (Exact.load rfl rfl w.box rfl rfl) ?_
                    refine WpPi.ps rfl trivial ?_
                    refine WpPi.consI rfl rfl rfl rfl (fun _ => Exact.indexAddr_buf (size := 1) rfl rfl rfl li rfl rfl (by decide)) ?_
                    refine WpPi.consS rfl rfl rfl rfl (Exact.load_row (i := i) (f := 0) rfl rfl w.t rfl (by decide) (map_at hi) rfl) ?_
                    refine WpPi.ps rfl trivial ?_
                    refine WpPi.consS rfl rfl rfl rfl (Exact.load rfl rfl bO rfl rfl) ?_
                    refine WpPi.ps rfl trivial ?_
                    refine WpPi.consS rfl rfl rfl rfl (Exact.load rfl rfl bO rfl rfl) ?_
                    refine WpPi.consS rfl rfl rfl rfl (Exact.call rfl rfl rfl (ref_restrict hv hN _)) ?_
                    refine WpPi.ps rfl trivial (WpPi.nil ?_)
                    refine ⟨(r, ds1), ⟨rfl, rfl, tb_eq fun s => ?_, trivial⟩, ga1, c1, es1, w, x1, lt1, by show ds1.length ≤ _; omega, ⟨fun k o hk h1 h2 => kept1.keep k o (hle k o hk) h1 h2, kept1.fresh.imp id (fun h => Heap.le_none hle h)⟩⟩
                    show semT ds1 n1 (withBit s N to) = sem ds1 r (asg s)
                    dsimp only at sem1
                    rw [sem1, semT_ext x1 w0.ar.wf m1]
                    show sem ds n1 (asg (withBit s N to)) = _
                    rw [asg_withBit]
                · intro hc
                  refine WpC.seqR (WpOps.ps rfl trivial (WpOps.nil ?_))
                  refine WpC.ret ?_
                  refine VEnds.ret3 rfl rfl rfl rfl ?_
                  exact ⟨_, _, Up.drop hle _, .inl ⟨rfl, rfl⟩⟩
  rintro ⟨r, ds'⟩ env H1 ⟨ga', c', es', w', x', lt', len', kept'⟩
  refine WpC.seq ?_
  refine WpC.seqR (WpOps.ps rfl trivial (WpOps.nil ?_))
  refine WpC.condF rfl ?_
  refine WpC.skip ?_
  refine WpC.seqR (WpOps.ps rfl trivial (WpOps.nil ?_))
  refine WpC.ret ?_
  refine VEnds.ret3 rfl rfl rfl rfl ?_
  exact ⟨_, _, Up.refl _ _, .inr ⟨r, ds', ga', c', es', rfl, w', x', lt', len', kept'⟩⟩
end Go.Proofs.Ytkhgiieglpdejaa
