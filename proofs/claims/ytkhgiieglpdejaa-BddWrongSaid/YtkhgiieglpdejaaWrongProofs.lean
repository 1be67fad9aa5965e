/-
  What is proved: the law BddWrong answers true, for every input; condition: none beyond the statement's own.
-/
import Derived.Test.YtkhgiieglpdejaaLift
set_option linter.unusedVariables false
set_option linter.unusedSimpArgs false
namespace Go.Proofs.Ytkhgiieglpdejaa
open Go Go.ChangeShapes Go.WideShapes Go.ChangeAt Go.RowKit Go.Vc Go.Vc.Bdd
attribute [local irreducible] WpC WpOps WpPi WpO Exact TCall VEnds

section
variable {H : Heap} {v : Nat} {ds : List Dec} {g ga c gm : Nat} {es : List (Value × AV)}
def Makes2 (v g gm : Nat) (ds : List Dec) (ga : Nat) (H : Heap) (k : Nat) (b : Prop) (x : AV) (H' : Heap) : Prop :=
  ∃ r e ds' ga' c' es', x = eA (iA r) e ∧ InA H' v ds' g ga' c' gm es' ∧ Ext ds ds' ∧ ds'.length ≤ ds.length + k ∧ Kept (SA g gm) H ga ga' H' ∧ ((e = 0 ∧ b) ∨ (e = 1 ∧ r = 0 ∧ ¬ b))
theorem bdd_VarE (a : InA H v ds g ga c gm es) {i : Int} (hlen : ds.length ≤ 900000) : TCall Try.prog 24 [pA g, zI i] H (Makes2 v g gm ds ga H 1 (0 ≤ i ∧ i < v)) noE :=
  (bdd_Var a (i := i) hlen).mono (fun x H' k => by
    by_cases h : 0 ≤ i ∧ i < v
    · rw [if_pos h] at k
      obtain ⟨r, ds', ga', c', es', h1, h2, h3, h4, h5, h6, h7⟩ := k
      exact ⟨r, 0, ds', ga', c', es', h1, h2, h3, h6, h7, .inl ⟨rfl, h⟩⟩
    · rw [if_neg h] at k
      obtain ⟨rfl, rfl⟩ := k
      exact ⟨0, 1, ds, ga, c, es, rfl, a, .refl _, by omega, .refl _ _ _, .inr ⟨rfl, rfl, h⟩⟩) (fun _ _ k => k)
theorem bdd_RestrictE (a : InA H v ds g ga c gm es) (hv : v ≤ 8) {i : Int} (hlen : ds.length ≤ 900000) : TCall Try.prog 25 [pA g, zI 1, zI i, .lit (.bool true)] H (Makes2 v g gm ds ga H 256 (0 ≤ i ∧ i < v)) noE :=
  (bdd_Restrict a hv 1 i true hlen).mono (fun x H' k => by
    have h2 := a.wf.two
    rw [if_pos (by omega)] at k
    by_cases h : 0 ≤ i ∧ i < v
    · rw [if_pos h] at k
      obtain ⟨r, ds', ga', c', es', h1, h2, h3, h4, h5, h6, h7⟩ := k
      exact ⟨r, 0, ds', ga', c', es', h1, h2, h3, h6, h7, .inl ⟨rfl, h⟩⟩
    · rw [if_neg h] at k
      obtain ⟨rfl, rfl⟩ := k
      exact ⟨0, 1, ds, ga, c, es, rfl, a, .refl _, by omega, .refl _ _ _, .inr ⟨rfl, rfl, h⟩⟩) (fun _ _ k => k)
theorem holds1 (v : Nat) (ds : List Dec) (h2 : 2 ≤ ds.length) (set : Int) : ∃ b e, holdsOf v ds 1 set = .tup [.lit (.bool b), iA e] ∧ ((b = true ∧ e = 0 ∧ (0 ≤ set ∧ set < (2 ^ v : Nat))) ∨ (b = false ∧ e = 1 ∧ ¬ (0 ≤ set ∧ set < (2 ^ v : Nat)))) := by
  by_cases h : 0 ≤ set ∧ set < (2 ^ v : Nat)
  · exact ⟨true, 0, by unfold holdsOf; rw [if_pos (by omega), if_pos h]; rfl, .inl ⟨rfl, rfl, h⟩⟩
  · exact ⟨false, 1, by unfold holdsOf; rw [if_pos (by omega), if_neg h], .inr ⟨rfl, rfl, h⟩⟩
theorem bdd_Restrict_bad (a : InA H v ds g ga c gm es) (hv : v ≤ 8) {n i : Int} {to : Bool} (hn : n < 0) (hlen : ds.length ≤ 900000) : TCall Try.prog 25 [pA g, zI n, zI i, .lit (.bool to)] H (fun x H' => x = eA (iA 0) 10 ∧ H' = H) noE :=
  (bdd_Restrict a hv n i to hlen).mono (fun x H' k => by rw [if_neg (by omega)] at k; exact k) (fun _ _ k => k)
theorem bdd_Holds_bad (a : InA H v ds g ga c gm es) (hv : v ≤ 8) {n set : Int} (hn : n < 0) (hlen : ds.length ≤ 900000) : TCall Try.prog 27 [pA g, zI n, zI set] H (fun x H' => x = .tup [.lit (.bool false), iA 10] ∧ H' = H) noE :=
  (bdd_Holds a hv n set hlen).mono (fun x H' k => ⟨k.1.trans (by unfold holdsOf; rw [if_neg (by omega)]), k.2⟩) (fun _ _ k => k)
theorem bdd_Sat_bad (a : InA H v ds g ga c gm es) (hv : v ≤ 8) {n : Int} (hn : n < 0) (hlen : ds.length ≤ 900000) : TCall Try.prog 12 [pA g, zI n] H (fun x H' => x = .tup [iA 0, .lit (.bool false), iA 10] ∧ H' = H) noE :=
  (bdd_Sat a hv n hlen).mono (fun x H' k => by rw [if_neg (by omega)] at k; exact k) (fun _ _ k => k)
theorem bdd_Count_bad (a : InA H v ds g ga c gm es) (hv : v ≤ 8) {n : Int} (hn : n < 0) (hlen : ds.length ≤ 900000) : TCall Try.prog 14 [pA g, zI n] H (fun x H' => x = eA (iA 0) 10 ∧ H' = H) noE :=
  (bdd_Count a hv n hlen).mono (fun x H' k => by rw [if_neg (by omega)] at k; exact k) (fun _ _ k => k)
theorem bdd_Only_bad (a : InA H v ds g ga c gm es) (hv : v ≤ 8) {n : Int} (hn : n < 0) (hlen : ds.length ≤ 900000) : TCall Try.prog 15 [pA g, zI n] H (fun x H' => x = eA (iA 0) 10 ∧ H' = H) noE :=
  (bdd_Only a hv n hlen).mono (fun x H' k => by rw [if_neg (by omega)] at k; exact k) (fun _ _ k => k)
end
set_option maxRecDepth 20000 in
theorem wrong_call {v n i set : Int} {l : List Op6} (hl : ∀ o ∈ l, o.Ok) (hll : l.length ≤ 9223372036854775807) (H : Heap) : TCall Try.prog 8 [zI v, .rows 6 (l.map encO), zI n, zI i, zI set] H (fun x _ => x = .lit (.bool true)) noE := by
  refine TCall.body Try.func8 rfl rfl ?_
  refine WpC.seqR (WpOps.ps rfl trivial (WpOps.nil ?_))
  refine WpC.seqR ?_
  refine WpOps.consE rfl rfl (Exact.call rfl rfl rfl (law_awake _)) ?_
  refine WpOps.ps rfl trivial (WpOps.nil ?_)
  refine WpC.seq ?_
  refine WpC.seqR (WpOps.ps rfl trivial (WpOps.nil ?_))
  by_cases h10 : 10 < l.length
  · refine WpC.at 50 (v := .lit (.bool true)) (congrArg (fun b => AV.lit (.bool b)) (decide_eq_true (by rw [List.length_map]; omega))) ?_
    refine WpC.condT rfl ?_
    refine WpC.seqR (WpOps.ps rfl trivial (WpOps.nil ?_))
    refine WpC.ret ?_
    refine VEnds.ret1 rfl rfl ?_
    exact rfl
  refine WpC.at 50 (v := .lit (.bool false)) (congrArg (fun b => AV.lit (.bool b)) (decide_eq_false (by rw [List.length_map]; omega))) ?_
  refine WpC.condF rfl ?_
  refine WpC.skip ?_
  refine WpC.seqR ?_
  refine WpOps.ps rfl trivial ?_
  refine WpOps.consG rfl rfl (WpO.call rfl rfl rfl ((law_built hl hll _).mono ?_ (fun _ _ h => h.elim)))
  intro x H1 hx
  rcases hx with ⟨rfl, hvn⟩ | ⟨ds, ns, gw, g, ga, c, gm, es, gl, cl, gt, ct, hv0, hv8, rfl, w, hn2, hnk, hdk⟩
  · refine WpOps.ps rfl trivial (WpOps.nil ?_)
    refine WpC.seq ?_
    refine WpC.seqR (WpOps.ps rfl trivial (WpOps.nil ?_))
    refine WpC.condT rfl ?_
    refine WpC.seqR ?_
    refine WpOps.ps rfl trivial ?_
    refine WpOps.consE rfl rfl (Exact.call rfl rfl rfl (bdd_New_bad hvn _)) ?_
    refine WpOps.ps rfl trivial (WpOps.nil ?_)
    refine WpC.seqR (WpOps.ps rfl trivial (WpOps.nil ?_))
    refine WpC.ret ?_
    refine VEnds.ret1 rfl rfl ?_
    exact rfl
  obtain ⟨v, rfl⟩ : ∃ k : Nat, v = k := ⟨v.toNat, by omega⟩
  rw [Int.toNat_natCast] at w
  have hv : v ≤ 8 := by omega
  have h8 := pow8 hv
  have hnk : ns.length ≤ 32 := hnk
  have hdk : ds.length ≤ 30722 := hdk
  refine WpOps.ps rfl trivial (WpOps.nil ?_)
  refine WpC.seq ?_
  refine WpC.seqR (WpOps.ps rfl trivial (WpOps.nil ?_))
  refine WpC.condF rfl ?_
  refine WpC.skip ?_
  refine WpC.seq ?_
  refine WpC.seqR (WpOps.ps rfl trivial (WpOps.nil ?_))
  refine WpC.condF rfl ?_
  refine WpC.skip ?_
  refine WpC.seqR ?_
  refine WpOps.ps rfl trivial ?_
  refine WpOps.consE rfl rfl (Exact.load rfl rfl w.box rfl rfl) ?_
  refine WpOps.ps rfl trivial ?_
  refine WpOps.consG rfl rfl (WpO.call rfl rfl rfl ((bdd_VarE w.ar (i := i) (by omega)).mono ?_ (fun _ _ h => h.elim)))
  rintro _ H2 ⟨r2, e2, ds2, ga2, c2, es2, rfl, a2, x2, len2, kept2, p2⟩
  have l2 := x2.len
  have w := w.kept a2 x2 kept2
  refine WpOps.ps rfl trivial (WpOps.nil ?_)
  refine WpC.seqR ?_
  refine WpOps.ps rfl trivial ?_
  refine WpOps.consE rfl rfl (Exact.load rfl rfl w.box rfl rfl) ?_
  refine WpOps.ps rfl trivial ?_
  refine WpOps.consG rfl rfl (WpO.call rfl rfl rfl ((bdd_RestrictE w.ar hv (i := i) (by omega)).mono ?_ (fun _ _ h => h.elim)))
  rintro _ H3 ⟨r3, e3, ds3, ga3, c3, es3, rfl, a3, x3, len3, kept3, p3⟩
  have l3 := x3.len
  have w := w.kept a3 x3 kept3
  refine WpOps.ps rfl trivial (WpOps.nil ?_)
  refine WpC.seqR ?_
  refine WpOps.cutB 8 20 (.lit (.bool (decide (0 ≤ i ∧ i < v)))) rfl ?_ ?_
  · refine WpOps.pn 3 rfl trivial ?_
    refine WpOps.split 92 rfl ?_ ?_
    · intro h
      have h := of_decide_eq_true h
      refine WpOps.ps rfl trivial (WpOps.nil ⟨?_, rfl⟩)
      exact congrArg (fun b => AV.lit (.bool b)) (decide_eq_decide.2 (by constructor; exact fun h3 => ⟨h, h3⟩; exact fun h3 => h3.2))
    · intro h
      have h := of_decide_eq_false h
      refine WpOps.ps rfl trivial (WpOps.nil ⟨?_, rfl⟩)
      exact congrArg (fun b => AV.lit (.bool b)) (decide_eq_false (fun h2 => h h2.1)).symm
  intro env20
  refine WpOps.nil ?_
  obtain ⟨hb, he, hq, p4⟩ := holds1 v ds3 w.ar.wf.two set
  have hH := bdd_Holds w.ar hv 1 set (by omega)
  rw [hq] at hH
  refine WpC.seqR ?_
  refine WpOps.ps rfl trivial ?_
  refine WpOps.consE rfl rfl (Exact.load rfl rfl w.box rfl rfl) ?_
  refine WpOps.ps rfl trivial ?_
  refine WpOps.consE rfl rfl (Exact.call rfl rfl rfl (hH)) ?_
  refine WpOps.ps rfl trivial (WpOps.nil ?_)
  refine WpC.seqR ?_
  refine WpOps.cutB 9 23 (.lit (.bool (decide (0 ≤ set ∧ set < (2 ^ v : Nat))))) rfl ?_ ?_
  · refine WpOps.pn 3 rfl trivial ?_
    refine WpOps.split 108 rfl ?_ ?_
    · intro h
      have h := of_decide_eq_true h
      refine WpOps.ps rfl (by simp only [conj]; omega) (WpOps.nil ⟨?_, rfl⟩)
      exact congrArg (fun b => AV.lit (.bool b)) (decide_eq_decide.2 (by rw [shl1 hv]; constructor; exact fun h3 => ⟨h, h3⟩; exact fun h3 => h3.2))
    · intro h
      have h := of_decide_eq_false h
      refine WpOps.ps rfl trivial (WpOps.nil ⟨?_, rfl⟩)
      exact congrArg (fun b => AV.lit (.bool b)) (decide_eq_false (fun h2 => h h2.1)).symm
  intro env23
  refine WpOps.nil ?_
  refine WpC.seqK (fun _ : Unit => [(10, .lit (.bool false)), (11, .lit (.bool true)), (12, pA gw), (2, zI n), (3, zI i), (4, zI set)]) (fun _ H' => H' = H3) ?_ ?_
  · rcases p2 with ⟨rfl, hi⟩ | ⟨rfl, rfl, hi⟩ <;> rcases p3 with ⟨rfl, hi3⟩ | ⟨rfl, rfl, hi3⟩ <;> first | exact (hi hi3).elim | exact (hi3 hi).elim | skip
    all_goals rcases p4 with ⟨rfl, rfl, hs⟩ | ⟨rfl, rfl, hs⟩
    · refine WpC.at 20 (v := .lit (.bool true)) (congrArg (fun b => AV.lit (.bool b)) (decide_eq_true hi)) ?_
      refine WpC.at 23 (v := .lit (.bool true)) (congrArg (fun b => AV.lit (.bool b)) (decide_eq_true hs)) ?_
      refine WpC.seqR (WpOps.ps rfl trivial (WpOps.nil ?_))
      refine WpC.condF rfl ?_
      refine WpC.skip ?_
      exact ⟨(), ⟨rfl, rfl, rfl, rfl, rfl, rfl, trivial⟩, rfl⟩
    · refine WpC.at 20 (v := .lit (.bool true)) (congrArg (fun b => AV.lit (.bool b)) (decide_eq_true hi)) ?_
      refine WpC.at 23 (v := .lit (.bool false)) (congrArg (fun b => AV.lit (.bool b)) (decide_eq_false hs)) ?_
      refine WpC.seqR (WpOps.ps rfl trivial (WpOps.nil ?_))
      refine WpC.condF rfl ?_
      refine WpC.skip ?_
      exact ⟨(), ⟨rfl, rfl, rfl, rfl, rfl, rfl, trivial⟩, rfl⟩
    · refine WpC.at 20 (v := .lit (.bool false)) (congrArg (fun b => AV.lit (.bool b)) (decide_eq_false hi)) ?_
      refine WpC.at 23 (v := .lit (.bool true)) (congrArg (fun b => AV.lit (.bool b)) (decide_eq_true hs)) ?_
      refine WpC.seqR (WpOps.ps rfl trivial (WpOps.nil ?_))
      refine WpC.condF rfl ?_
      refine WpC.skip ?_
      exact ⟨(), ⟨rfl, rfl, rfl, rfl, rfl, rfl, trivial⟩, rfl⟩
    · refine WpC.at 20 (v := .lit (.bool false)) (congrArg (fun b => AV.lit (.bool b)) (decide_eq_false hi)) ?_
      refine WpC.at 23 (v := .lit (.bool false)) (congrArg (fun b => AV.lit (.bool b)) (decide_eq_false hs)) ?_
      refine WpC.seqR (WpOps.ps rfl trivial (WpOps.nil ?_))
      refine WpC.condF rfl ?_
      refine WpC.skip ?_
      exact ⟨(), ⟨rfl, rfl, rfl, rfl, rfl, rfl, trivial⟩, rfl⟩
  rintro _ env H4 rfl
  refine WpC.seq ?_
  refine WpC.seqR (WpOps.ps rfl trivial (WpOps.nil ?_))
  refine WpC.condP rfl ?_ ?_
  · intro hc
    refine WpC.seqR (WpOps.ps rfl trivial (WpOps.nil ?_))
    refine WpC.ret ?_
    refine VEnds.ret1 rfl rfl ?_
    exact rfl
  · intro hc
    have hneg : n < 0 := by omega
    refine WpC.skip ?_
    refine WpC.seqR (WpOps.ps rfl trivial (WpOps.nil ?_))
    refine WpC.seqR ?_
    refine WpOps.ps rfl trivial ?_
    refine WpOps.consE rfl rfl (Exact.load rfl rfl w.box rfl rfl) ?_
    refine WpOps.ps rfl trivial ?_
    refine WpOps.consE rfl rfl (Exact.call rfl rfl rfl (bdd_Not_bad w.ar (by omega) (n := n) hneg)) ?_
    refine WpOps.ps rfl trivial (WpOps.nil ?_)
    refine WpC.seqR ?_
    refine WpOps.ps rfl trivial ?_
    refine WpOps.consE rfl rfl (Exact.load rfl rfl w.box rfl rfl) ?_
    refine WpOps.ps rfl trivial ?_
    refine WpOps.consE rfl rfl (Exact.call rfl rfl rfl (bdd_And_bad w.ar (by omega) (n := 1) (m := n) (decide_eq_false (by simp; omega)))) ?_
    refine WpOps.ps rfl trivial (WpOps.nil ?_)
    refine WpC.seqR ?_
    refine WpOps.ps rfl trivial ?_
    refine WpOps.consE rfl rfl (Exact.load rfl rfl w.box rfl rfl) ?_
    refine WpOps.ps rfl trivial ?_
    refine WpOps.consE rfl rfl (Exact.call rfl rfl rfl (bdd_Or_bad w.ar (by omega) (n := n) (m := 0) (decide_eq_false (by simp; omega)))) ?_
    refine WpOps.ps rfl trivial (WpOps.nil ?_)
    refine WpC.seqR ?_
    refine WpOps.ps rfl trivial ?_
    refine WpOps.consE rfl rfl (Exact.load rfl rfl w.box rfl rfl) ?_
    refine WpOps.ps rfl trivial ?_
    refine WpOps.consE rfl rfl (Exact.call rfl rfl rfl (bdd_Xor_bad w.ar (by omega) (n := 0) (m := n) (decide_eq_false (by simp; omega)))) ?_
    refine WpOps.ps rfl trivial (WpOps.nil ?_)
    refine WpC.seqR ?_
    refine WpOps.ps rfl trivial ?_
    refine WpOps.consE rfl rfl (Exact.load rfl rfl w.box rfl rfl) ?_
    refine WpOps.ps rfl trivial ?_
    refine WpOps.consE rfl rfl (Exact.call rfl rfl rfl (bdd_Ite_bad w.ar (by omega) (q := 1) (n := 0) (m := n) (decide_eq_false (by simp; omega)))) ?_
    refine WpOps.ps rfl trivial (WpOps.nil ?_)
    refine WpC.seqR ?_
    refine WpOps.ps rfl trivial ?_
    refine WpOps.consE rfl rfl (Exact.load rfl rfl w.box rfl rfl) ?_
    refine WpOps.ps rfl trivial ?_
    refine WpOps.consE rfl rfl (Exact.call rfl rfl rfl (bdd_Restrict_bad w.ar hv (n := n) (i := i) (to := true) hneg (by omega))) ?_
    refine WpOps.ps rfl trivial (WpOps.nil ?_)
    refine WpC.seqR ?_
    refine WpOps.ps rfl trivial ?_
    refine WpOps.consE rfl rfl (Exact.load rfl rfl w.box rfl rfl) ?_
    refine WpOps.ps rfl trivial ?_
    refine WpOps.consE rfl rfl (Exact.call rfl rfl rfl (bdd_Holds_bad w.ar hv (n := n) (set := set) hneg (by omega))) ?_
    refine WpOps.ps rfl trivial (WpOps.nil ?_)
    refine WpC.seqR ?_
    refine WpOps.ps rfl trivial ?_
    refine WpOps.consE rfl rfl (Exact.load rfl rfl w.box rfl rfl) ?_
    refine WpOps.ps rfl trivial ?_
    refine WpOps.consE rfl rfl (Exact.call rfl rfl rfl (bdd_Sat_bad w.ar hv (n := n) hneg (by omega))) ?_
    refine WpOps.ps rfl trivial (WpOps.nil ?_)
    refine WpC.seqR ?_
    refine WpOps.ps rfl trivial ?_
    refine WpOps.consE rfl rfl (Exact.load rfl rfl w.box rfl rfl) ?_
    refine WpOps.ps rfl trivial ?_
    refine WpOps.consE rfl rfl (Exact.call rfl rfl rfl (bdd_Count_bad w.ar hv (n := n) hneg (by omega))) ?_
    refine WpOps.ps rfl trivial (WpOps.nil ?_)
    refine WpC.seqR ?_
    refine WpOps.ps rfl trivial ?_
    refine WpOps.consE rfl rfl (Exact.load rfl rfl w.box rfl rfl) ?_
    refine WpOps.ps rfl trivial ?_
    refine WpOps.consE rfl rfl (Exact.call rfl rfl rfl (bdd_Only_bad w.ar hv (n := n) hneg (by omega))) ?_
    refine WpOps.ps rfl trivial (WpOps.nil ?_)
    refine WpC.seqR (WpOps.ps rfl trivial (WpOps.nil ?_))
    refine WpC.seqR (WpOps.ps rfl trivial (WpOps.nil ?_))
    refine WpC.ret ?_
    refine VEnds.ret1 rfl rfl ?_
    exact rfl

theorem wrong_lifted (os : Os) (started : os.Started) (H : Type) (enc : TypeId × Value → H) :
    ReturnsInHanded {} Try.checked os 8 .any (Rows.bddWrongSpec.pre6 enc Try.prog Try.f8 Rows.bddWrongRow.domain false) (Rows.bddWrongSpec.post enc Try.prog Try.f8 false true false false) := by
  refine returnsInHanded_of_change (C := Try.checked) Try.own started (by kernel_rfl) Try.func8
    (ChangeSpec.witness6 (enc := enc) (C := Try.checked) false ⟨#[], #[.int .i64 0, .slice none 0 0, .int .i64 0, .int .i64 0, .int .i64 0], []⟩ 8 (by kernel_rfl) (by kernel_rfl) (by kernel_rfl) (by kernel_rfl)) ?_
  intro W base args ds gs before hval hW _ _
  refine law_post (P := Try.prog) (n := 8) ⟨rfl, fun H ds h => ?_⟩ Try.laidOut (by kernel_rfl) (by kernel_rfl) (show Try.f8.resultTypes = #[4] by kernel_rfl) Try.underlying4 hval hW fun xs hx => ?_
  · match ds, h with
    | [d0, d1, d2, d3, d4], _ => rfl
  · rw [Try.params8] at hx
    obtain ⟨i, r, wi, rfl, h1⟩ := ArgsC.int Try.underlying3 hx
    obtain ⟨l, r, hl, hll, rfl, h2⟩ := args_ops h1
    obtain ⟨n, r, wn, rfl, h3⟩ := ArgsC.int Try.underlying3 h2
    obtain ⟨y, r, wy, rfl, h4⟩ := ArgsC.int Try.underlying3 h3
    obtain ⟨z, r, wz, rfl, h5⟩ := ArgsC.int Try.underlying3 h4
    cases h5
    exact wrong_call hl hll _

theorem wrong_holds : Rows.BddWrongSaid :=
  OpenClaim.holds_of_wide 8 Try.f8 rfl rfl rfl rfl rfl rfl rfl ⟨rfl, rfl, rfl, rfl, rfl⟩ rfl rfl rfl rfl rfl (by kernel_rfl) Try.func8 (by kernel_rfl)
    (of_decide_eq_true (by kernel_rfl)) (by unfold Func.isWrapper; first | (rw [if_pos (by decide +kernel)]; kernel_rfl) | (rw [if_neg (by decide +kernel)]; exact ⟨rfl, rfl⟩))
    (fun os started H enc _ => wrong_lifted os started H enc)
end Go.Proofs.Ytkhgiieglpdejaa
