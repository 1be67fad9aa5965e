/-
  The chapter's examples hold.
-/
import Derived.Test.YtkhgiieglpdejaaBuilt
set_option linter.unusedVariables false
set_option linter.unusedSimpArgs false
namespace Go.Proofs.Ytkhgiieglpdejaa
open Go Go.Vc Go.Vc.Bdd
attribute [local irreducible] WpC WpOps WpPi WpO Exact TCall VEnds

theorem bdd_New_ok {v : Nat} (hv : v ≤ 8) (H : Heap) : TCall Try.prog 29 [iA v] H (fun x H' => ∃ g ga c gm, x = eA (pA g) 0 ∧ InA H' v [⟨v, 0, 0⟩, ⟨v, 0, 0⟩] g ga c gm [] ∧ H.le H' ∧ H g = none ∧ H ga = none ∧ H gm = none) noE :=
  (bdd_New (v := (v : Int)) H).mono (fun x H' k => by
    rw [if_pos (by omega)] at k
    obtain ⟨g, ga, c, gm, h1, h2, h3⟩ := k
    exact ⟨g, ga, c, gm, h1, h2, h3⟩) (fun _ _ k => k)
theorem bdd_New_bad {v : Int} (hv : ¬ (0 ≤ v ∧ v ≤ 8)) (H : Heap) : TCall Try.prog 29 [zI v] H (fun x H' => x = eA (.lit (.pointer none)) 1 ∧ H' = H) noE :=
  (bdd_New (v := v) H).mono (fun x H' k => by rw [if_neg hv] at k; exact k) (fun _ _ k => k)
section
variable {H : Heap} {v : Nat} {ds ds' : List Dec} {g ga c gm : Nat} {es : List (Value × AV)}
theorem bdd_Var_bad (a : InA H v ds g ga c gm es) {i : Int} (hi : ¬ (0 ≤ i ∧ i < v)) (hlen : ds.length ≤ 900000) : TCall Try.prog 24 [pA g, zI i] H (fun x H' => x = eA (iA 0) 1 ∧ H' = H) noE :=
  (bdd_Var a (i := i) hlen).mono (fun x H' k => by rw [if_neg hi] at k; exact k) (fun _ _ k => k)
theorem bdd_Sat' (a : InA H v ds g ga c gm es) (hv : v ≤ 8) {n : Nat} (hn : n < ds.length) (hlen : ds.length ≤ 900000) : TCall Try.prog 12 [pA g, iA n] H (fun x H' => x = (match leastFrom (semT ds n) (2 ^ v) 0 with | some k => .tup [iA k, .lit (.bool true), iA 0] | none => .tup [iA 0, .lit (.bool false), iA 0]) ∧ H' = H) noE :=
  (bdd_Sat a hv (n : Int) hlen).mono (fun x H' k => by rw [if_pos (by omega)] at k; exact k) (fun _ _ k => k)
theorem bdd_Count' (a : InA H v ds g ga c gm es) (hv : v ≤ 8) {n : Nat} (hn : n < ds.length) (hlen : ds.length ≤ 900000) : TCall Try.prog 14 [pA g, iA n] H (fun x H' => x = eA (iA (countOf (2 ^ v) (semT ds n))) 0 ∧ H' = H) noE :=
  (bdd_Count a hv (n : Int) hlen).mono (fun x H' k => by rw [if_pos (by omega)] at k; exact k) (fun _ _ k => k)
theorem bdd_Only' (a : InA H v ds g ga c gm es) (hv : v ≤ 8) {n : Nat} (hn : n < ds.length) (hlen : ds.length ≤ 900000) : TCall Try.prog 15 [pA g, iA n] H (fun x H' => (∃ set, x = eA (iA set) 0 ∧ set < 2 ^ v ∧ ∀ i, set.testBit i = true ↔ Hangs ds n i) ∧ H' = H) noE :=
  (bdd_Only a hv (n : Int) hlen).mono (fun x H' k => by rw [if_pos (by omega)] at k; exact k) (fun _ _ k => k)
theorem sup (x : Ext ds ds') (w : WF v ds) {n : Nat} (hn : n < ds.length) {φ : Asg → Bool} (h : ∀ s, sem ds n s = φ s) : ∀ s, sem ds' n s = φ s := fun s => by rw [x.sem w n s hn]; exact h s
end

theorem only3 {ds : List Dec} {n set : Nat} (v7 : ∀ s, sem ds n s = (s 1 && s 0)) (hset : set < 2 ^ 3) (hang : ∀ i, set.testBit i = true ↔ Hangs ds n i) : set = 3 := by
  have h0 : set.testBit 0 = true := (hang 0).2 ⟨fun _ => true, by rw [v7, v7]; simp [upd]⟩
  have h1 : set.testBit 1 = true := (hang 1).2 ⟨fun _ => true, by rw [v7, v7]; simp [upd]⟩
  have h2 : set.testBit 2 = false := by
    cases h : set.testBit 2 with
    | false => rfl
    | true =>
      obtain ⟨s, hs⟩ := (hang 2).1 h
      rw [v7, v7] at hs; simp [upd] at hs
  have : set = 0 ∨ set = 1 ∨ set = 2 ∨ set = 3 ∨ set = 4 ∨ set = 5 ∨ set = 6 ∨ set = 7 := by omega
  rcases this with rfl | rfl | rfl | rfl | rfl | rfl | rfl | rfl <;> first | rfl | (simp [Nat.testBit] at h0 h1 h2)

theorem law_awake (H : Heap) : TCall Try.prog 10 [] H (fun x H' => x = .lit (.bool true) ∧ H' = H) noE := by
  refine TCall.up (TCall.body Try.func10 rfl rfl ?_)
  refine WpC.seqR (WpOps.ps rfl trivial (WpOps.nil ?_))
  refine WpC.seqR ?_
  refine WpOps.consG rfl rfl (WpO.call rfl rfl rfl ((bdd_New_ok (v := 3) (by omega) H).mono ?_ (fun _ _ h => h.elim)))
  rintro _ H0 ⟨g, ga0, c0, gm, rfl, a0, hle, hg, hga, hgm⟩
  refine WpOps.ps rfl trivial (WpOps.nil ?_)
  refine WpC.seqR ?_
  refine WpOps.consE rfl rfl (Exact.call rfl rfl rfl (bdd_New_bad (v := 9) (by omega) _)) ?_
  refine WpOps.ps rfl trivial (WpOps.nil ?_)
  refine WpC.seq ?_
  refine WpC.seqR (WpOps.ps rfl trivial (WpOps.nil ?_))
  refine WpC.condF rfl ?_
  refine WpC.skip ?_
  refine WpC.seqR ?_
  refine WpOps.ps rfl trivial ?_
  refine WpOps.consG rfl rfl (WpO.call rfl rfl rfl ((bdd_Var' a0 (i := 0) (by omega) (by simp)).mono ?_ (fun _ _ h => h.elim)))
  rintro _ H1 ⟨r1, ds1, ga1, c1, es1, rfl, a1, x1, lt1, v1, len1, kept1⟩
  have l1 := x1.len
  dsimp only at v1
  have l0 : ([⟨3, 0, 0⟩, ⟨3, 0, 0⟩] : List Dec).length = 2 := rfl
  rw [l0] at len1 l1
  refine WpOps.ps rfl trivial (WpOps.nil ?_)
  refine WpC.seqR ?_
  refine WpOps.ps rfl trivial ?_
  refine WpOps.consG rfl rfl (WpO.call rfl rfl rfl ((bdd_Var' a1 (i := 1) (by omega) (by omega)).mono ?_ (fun _ _ h => h.elim)))
  rintro _ H2 ⟨r2, ds2, ga2, c2, es2, rfl, a2, x2, lt2, v2, len2, kept2⟩
  have l2 := x2.len
  dsimp only at v2
  have v1 := sup x2 a1.wf lt1 v1
  refine WpOps.ps rfl trivial (WpOps.nil ?_)
  refine WpC.seqR ?_
  refine WpOps.ps rfl trivial ?_
  refine WpOps.consG rfl rfl (WpO.call rfl rfl rfl ((bdd_Not a2 (by omega) (n := r1) (by omega) (by omega)).mono ?_ (fun _ _ h => h.elim)))
  rintro _ H3 ⟨r3, ds3, ga3, c3, es3, rfl, a3, x3, lt3, v3, len3, kept3⟩
  have l3 := x3.len
  dsimp only at v3
  simp only [v1] at v3
  have v1 := sup x3 a2.wf (by omega) v1
  have v2 := sup x3 a2.wf (by omega) v2
  refine WpOps.ps rfl trivial (WpOps.nil ?_)
  refine WpC.seqR ?_
  refine WpOps.ps rfl trivial ?_
  refine WpOps.consG rfl rfl (WpO.call rfl rfl rfl ((bdd_And a3 (by omega) (n := r1) (m := r3) (by omega) (by omega) (by omega)).mono ?_ (fun _ _ h => h.elim)))
  rintro _ H4 ⟨r4, ds4, ga4, c4, es4, rfl, a4, x4, lt4, v4, len4, kept4⟩
  have l4 := x4.len
  dsimp only at v4
  simp only [v1, v3] at v4
  have v1 := sup x4 a3.wf (by omega) v1
  have v2 := sup x4 a3.wf (by omega) v2
  have v3 := sup x4 a3.wf (by omega) v3
  have t4 := a4.wf.two
  obtain rfl : r4 = 0 := one_of_same a4.wf lt4 (by omega) (fun s => by rw [v4, sem_zero]; cases s 0 <;> rfl)
  refine WpOps.ps rfl trivial (WpOps.nil ?_)
  refine WpC.seqR ?_
  refine WpOps.ps rfl trivial ?_
  refine WpOps.consG rfl rfl (WpO.call rfl rfl rfl ((bdd_Or a4 (by omega) (n := r1) (m := r3) (by omega) (by omega) (by omega)).mono ?_ (fun _ _ h => h.elim)))
  rintro _ H5 ⟨r5, ds5, ga5, c5, es5, rfl, a5, x5, lt5, v5, len5, kept5⟩
  have l5 := x5.len
  dsimp only at v5
  simp only [v1, v3] at v5
  have v1 := sup x5 a4.wf (by omega) v1
  have v2 := sup x5 a4.wf (by omega) v2
  have t5 := a5.wf.two
  obtain rfl : r5 = 1 := one_of_same a5.wf lt5 (by omega) (fun s => by rw [v5, sem_one]; cases s 0 <;> rfl)
  refine WpOps.ps rfl trivial (WpOps.nil ?_)
  refine WpC.seqR ?_
  refine WpOps.ps rfl trivial ?_
  refine WpOps.consG rfl rfl (WpO.call rfl rfl rfl ((bdd_And a5 (by omega) (n := r1) (m := r2) (by omega) (by omega) (by omega)).mono ?_ (fun _ _ h => h.elim)))
  rintro _ H6 ⟨r6, ds6, ga6, c6, es6, rfl, a6, x6, lt6, v6, len6, kept6⟩
  have l6 := x6.len
  dsimp only at v6
  simp only [v1, v2] at v6
  have v1 := sup x6 a5.wf (by omega) v1
  have v2 := sup x6 a5.wf (by omega) v2
  refine WpOps.ps rfl trivial (WpOps.nil ?_)
  refine WpC.seqR ?_
  refine WpOps.ps rfl trivial ?_
  refine WpOps.consG rfl rfl (WpO.call rfl rfl rfl ((bdd_And a6 (by omega) (n := r2) (m := r1) (by omega) (by omega) (by omega)).mono ?_ (fun _ _ h => h.elim)))
  rintro _ H7 ⟨r7, ds7, ga7, c7, es7, rfl, a7, x7, lt7, v7, len7, kept7⟩
  have l7 := x7.len
  dsimp only at v7
  simp only [v1, v2] at v7
  have v1 := sup x7 a6.wf (by omega) v1
  have v2 := sup x7 a6.wf (by omega) v2
  have v6 := sup x7 a6.wf (by omega) v6
  obtain rfl : r7 = r6 := one_of_same a7.wf lt7 (by omega) (fun s => by rw [v7, v6]; cases s 0 <;> cases s 1 <;> rfl)
  have e6 : semT ds7 r7 = fun set => set.testBit 1 && set.testBit 0 := by funext set; exact v7 (asg set)
  refine WpOps.ps rfl trivial (WpOps.nil ?_)
  refine WpC.seqR ?_
  refine WpOps.ps rfl trivial ?_
  have hsat := bdd_Sat' a7 (by omega) (n := r7) (by omega) (by omega)
  rw [show leastFrom (semT ds7 r7) (2 ^ 3) 0 = some 3 by rw [e6]; rfl] at hsat
  refine WpOps.consE rfl rfl (Exact.call rfl rfl rfl (hsat)) ?_
  refine WpOps.ps rfl trivial (WpOps.nil ?_)
  refine WpC.seqR ?_
  refine WpOps.ps rfl trivial ?_
  have hcount := bdd_Count' a7 (by omega) (n := r7) (by omega) (by omega)
  rw [show countOf (2 ^ 3) (semT ds7 r7) = 2 by rw [e6]; rfl] at hcount
  refine WpOps.consE rfl rfl (Exact.call rfl rfl rfl (hcount)) ?_
  refine WpOps.ps rfl trivial (WpOps.nil ?_)
  refine WpC.seqR ?_
  refine WpOps.ps rfl trivial ?_
  refine WpOps.consG rfl rfl (WpO.call rfl rfl rfl ((bdd_Only' a7 (by omega) (n := r7) (by omega) (by omega)).mono ?_ (fun _ _ h => h.elim)))
  rintro _ H7 ⟨⟨set, rfl, hset, hang⟩, rfl⟩
  obtain rfl : set = 3 := only3 v7 hset hang
  refine WpOps.ps rfl trivial (WpOps.nil ?_)
  refine WpC.seqR ?_
  refine WpOps.ps rfl trivial ?_
  refine WpOps.consG rfl rfl (WpO.call rfl rfl rfl ((bdd_Restrict' a7 (by omega) true (n := r7) (i := 0) (by omega) (by omega) (by omega)).mono ?_ (fun _ _ h => h.elim)))
  rintro _ H8 ⟨r8, ds8, ga8, c8, es8, rfl, a8, x8, lt8, v8, len8, kept8⟩
  have l8 := x8.len
  dsimp only at v8
  simp only [v7] at v8
  have v7 := sup x8 a7.wf (by omega) v7
  have v2 := sup x8 a7.wf (by omega) v2
  obtain rfl : r8 = r2 := one_of_same a8.wf lt8 (by omega) (fun s => by rw [v8, v2]; simp [upd])
  refine WpOps.ps rfl trivial (WpOps.nil ?_)
  refine WpC.seqR ?_
  refine WpOps.ps rfl trivial ?_
  refine WpOps.consG rfl rfl (WpO.call rfl rfl rfl ((bdd_Restrict' a8 (by omega) false (n := r7) (i := 0) (by omega) (by omega) (by omega)).mono ?_ (fun _ _ h => h.elim)))
  rintro _ H9 ⟨r9, ds9, ga9, c9, es9, rfl, a9, x9, lt9, v9, len9, kept9⟩
  have l9 := x9.len
  dsimp only at v9
  simp only [v7] at v9
  have t9 := a9.wf.two
  obtain rfl : r9 = 0 := one_of_same a9.wf lt9 (by omega) (fun s => by rw [v9, sem_zero]; simp [upd])
  refine WpOps.ps rfl trivial (WpOps.nil ?_)
  refine WpC.seqR ?_
  refine WpOps.ps rfl trivial ?_
  refine WpOps.consE rfl rfl (Exact.call rfl rfl rfl (bdd_Var_bad a9 (i := 3) (by omega) (by omega))) ?_
  refine WpOps.ps rfl trivial (WpOps.nil ?_)
  refine WpC.seqR ?_
  refine WpOps.ps rfl trivial ?_
  refine WpOps.consE rfl rfl (Exact.call rfl rfl rfl (bdd_Not_bad a9 (by omega) (n := -1) (by omega))) ?_
  refine WpOps.ps rfl trivial (WpOps.nil ?_)
  refine WpC.seqR ?_
  refine WpOps.ps rfl trivial ?_
  refine WpOps.consE rfl rfl (Exact.call rfl rfl rfl (bdd_Vars a9)) ?_
  refine WpOps.ps rfl trivial (WpOps.nil ?_)
  refine WpC.seqR ?_
  refine WpOps.pn 18 rfl trivial ?_
  refine WpOps.at 161 (v := .lit (.bool true)) (congrArg (fun b => AV.lit (.bool b)) (decide_eq_true rfl)) ?_
  refine WpOps.pn 20 rfl trivial ?_
  refine WpOps.at 181 (v := .lit (.bool true)) (congrArg (fun b => AV.lit (.bool b)) (decide_eq_true rfl)) ?_
  refine WpOps.ps rfl trivial (WpOps.nil ?_)
  refine WpC.ret ?_
  refine VEnds.ret1 rfl rfl ?_
  have kept := (((((((kept1.trans kept2 a1.stay).trans kept3 a2.stay).trans kept4 a3.stay).trans kept5 a4.stay).trans kept6 a5.stay).trans kept7 a6.stay).trans kept8 a7.stay).trans kept9 a8.stay
  have le : H.le H9 := fun k o hk => kept.keep k o (hle k o hk) (fun e => by rw [e, hga] at hk; cases hk) (fun hS => by
    rcases hS with e | e
    · rw [e, hg] at hk; cases hk
    · rw [e, hgm] at hk; cases hk)
  exact ⟨_, _, Up.drop le _, rfl, rfl⟩
end Go.Proofs.Ytkhgiieglpdejaa
