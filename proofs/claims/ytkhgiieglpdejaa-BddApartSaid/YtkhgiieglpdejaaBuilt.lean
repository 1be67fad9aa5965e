/-
  A world in which ops were played; what may not be is told.
-/
import Derived.Test.YtkhgiieglpdejaaPlay
set_option linter.unusedVariables false
set_option linter.unusedSimpArgs false
namespace Go.Proofs.Ytkhgiieglpdejaa
open Go Go.Vc Go.Vc.Bdd
attribute [local irreducible] WpC WpOps WpPi WpO Exact TCall VEnds

abbrev zI (n : Int) : AV := .lit (.int .i64 n)
section bad
variable {H : Heap} {v : Nat} {ds : List Dec} {g ga c gm : Nat} {es : List (Value × AV)}
theorem bdd_And_bad (a : InA H v ds g ga c gm es) (hlen : ds.length ≤ 900000) {n m : Int} (hb : rightOf ds.length [n, m] = false) : TCall Try.prog 20 [pA g, zI n, zI m] H (fun x H' => x = eA (iA 0) 10 ∧ H' = H) noE := by
  refine TCall.body Try.func20 rfl rfl ?_
  refine WpC.seqR (WpOps.ps rfl trivial (WpOps.nil ?_))
  refine WpC.seq ?_
  refine WpC.seqR ?_
  refine WpOps.ps rfl trivial ?_
  refine WpOps.consE rfl rfl (Exact.litSlice rfl rfl) ?_
  refine WpOps.consE rfl rfl (Exact.call rfl rfl rfl (bdd_right a [n, m] (by simp) (by omega))) ?_
  refine WpOps.at 12 (congrArg (fun b => AV.lit (.bool b)) hb) ?_
  refine WpOps.ps rfl trivial (WpOps.nil ?_)
  refine WpC.condT rfl ?_
  refine WpC.seqR (WpOps.ps rfl trivial (WpOps.nil ?_))
  refine WpC.ret ?_
  exact VEnds.ret2 rfl rfl rfl ⟨rfl, rfl⟩
theorem bdd_Or_bad (a : InA H v ds g ga c gm es) (hlen : ds.length ≤ 900000) {n m : Int} (hb : rightOf ds.length [n, m] = false) : TCall Try.prog 21 [pA g, zI n, zI m] H (fun x H' => x = eA (iA 0) 10 ∧ H' = H) noE := by
  refine TCall.body Try.func21 rfl rfl ?_
  refine WpC.seqR (WpOps.ps rfl trivial (WpOps.nil ?_))
  refine WpC.seq ?_
  refine WpC.seqR ?_
  refine WpOps.ps rfl trivial ?_
  refine WpOps.consE rfl rfl (Exact.litSlice rfl rfl) ?_
  refine WpOps.consE rfl rfl (Exact.call rfl rfl rfl (bdd_right a [n, m] (by simp) (by omega))) ?_
  refine WpOps.at 12 (congrArg (fun b => AV.lit (.bool b)) hb) ?_
  refine WpOps.ps rfl trivial (WpOps.nil ?_)
  refine WpC.condT rfl ?_
  refine WpC.seqR (WpOps.ps rfl trivial (WpOps.nil ?_))
  refine WpC.ret ?_
  exact VEnds.ret2 rfl rfl rfl ⟨rfl, rfl⟩
theorem bdd_Xor_bad (a : InA H v ds g ga c gm es) (hlen : ds.length ≤ 900000) {n m : Int} (hb : rightOf ds.length [n, m] = false) : TCall Try.prog 23 [pA g, zI n, zI m] H (fun x H' => x = eA (iA 0) 10 ∧ H' = H) noE := by
  refine TCall.body Try.func23 rfl rfl ?_
  refine WpC.seqR (WpOps.ps rfl trivial (WpOps.nil ?_))
  refine WpC.seq ?_
  refine WpC.seqR ?_
  refine WpOps.ps rfl trivial ?_
  refine WpOps.consE rfl rfl (Exact.litSlice rfl rfl) ?_
  refine WpOps.consE rfl rfl (Exact.call rfl rfl rfl (bdd_right a [n, m] (by simp) (by omega))) ?_
  refine WpOps.at 12 (congrArg (fun b => AV.lit (.bool b)) hb) ?_
  refine WpOps.ps rfl trivial (WpOps.nil ?_)
  refine WpC.condT rfl ?_
  refine WpC.seqR (WpOps.ps rfl trivial (WpOps.nil ?_))
  refine WpC.ret ?_
  exact VEnds.ret2 rfl rfl rfl ⟨rfl, rfl⟩
theorem bdd_Not_bad (a : InA H v ds g ga c gm es) (hlen : ds.length ≤ 900000) {n : Int} (hb : n < 0) : TCall Try.prog 19 [pA g, zI n] H (fun x H' => x = eA (iA 0) 10 ∧ H' = H) noE := by
  refine TCall.body Try.func19 rfl rfl ?_
  refine WpC.seqR (WpOps.ps rfl trivial (WpOps.nil ?_))
  refine WpC.seqR ?_
  refine WpOps.ps rfl trivial ?_
  refine WpOps.consE rfl rfl (Exact.call rfl rfl rfl (bdd_Xor_bad a hlen (n := n) (m := 1) (decide_eq_false (by simp; omega)))) ?_
  refine WpOps.ps rfl trivial (WpOps.nil ?_)
  refine WpC.ret ?_
  exact VEnds.ret2 rfl rfl rfl ⟨rfl, rfl⟩
theorem bdd_Ite_bad (a : InA H v ds g ga c gm es) (hlen : ds.length ≤ 900000) {q n m : Int} (hb : rightOf ds.length [q, n, m] = false) : TCall Try.prog 22 [pA g, zI q, zI n, zI m] H (fun x H' => x = eA (iA 0) 10 ∧ H' = H) noE := by
  refine TCall.body Try.func22 rfl rfl ?_
  refine WpC.seqR (WpOps.ps rfl trivial (WpOps.nil ?_))
  refine WpC.seq ?_
  refine WpC.seqR ?_
  refine WpOps.ps rfl trivial ?_
  refine WpOps.consE rfl rfl (Exact.litSlice rfl rfl) ?_
  refine WpOps.consE rfl rfl (Exact.call rfl rfl rfl (bdd_right a [q, n, m] (by simp) (by omega))) ?_
  refine WpOps.at 15 (congrArg (fun b => AV.lit (.bool b)) hb) ?_
  refine WpOps.ps rfl trivial (WpOps.nil ?_)
  refine WpC.condT rfl ?_
  refine WpC.seqR (WpOps.ps rfl trivial (WpOps.nil ?_))
  refine WpC.ret ?_
  exact VEnds.ret2 rfl rfl rfl ⟨rfl, rfl⟩
end bad

/-! ### ops as they are told -/
structure Op6 where
  Do : Int
  A : Int
  B : Int
  C : Int
  N : Int
  to : Bool
def encO (o : Op6) : List AV := [zI o.Do, zI o.A, zI o.B, zI o.C, zI o.N, .lit (.bool o.to)]
structure Op6.Ok (o : Op6) : Prop where
  hA : inR .i64 o.A
  hB : inR .i64 o.B
  hC : inR .i64 o.C

theorem tab_ek2 : ElemOk Try.prog 29 39 1 24 := ElemOk.of (by kernel_rfl)
theorem Heap.ne_of {H : Heap} {a b : Nat} {x y : AObj} (ha : H a = some x) (hb : H b = some y) (h : x ≠ y) : a ≠ b := by
  rintro rfl; rw [ha] at hb; injection hb with hb; exact h hb

/-- what was built: none; or a world -/
def BuiltR (v : Int) (k : Nat) (x : AV) (H' : Heap) : Prop :=
  (x = .tup [.lit (.pointer none), .lit (.bool true)] ∧ ¬ (0 ≤ v ∧ v ≤ 8)) ∨
  ∃ ds ns gw g ga c gm es gl cl gt ct, 0 ≤ v ∧ v ≤ 8 ∧ x = .tup [pA gw, .lit (.bool true)] ∧ InW H' v.toNat ds ns gw g ga c gm es gl cl gt ct ∧ 2 ≤ ns.length ∧ ns.length ≤ 2 + k ∧ ds.length ≤ 2 + 1024 * k

theorem law_built {v : Int} {l : List Op6} (hl : ∀ o ∈ l, o.Ok) (hll : l.length ≤ 9223372036854775807) (H : Heap) : TCall Try.prog 11 [zI v, .rows 6 (l.map encO)] H (BuiltR v 30) noE := by
  refine TCall.body Try.func11 rfl rfl ?_
  refine WpC.seqR (WpOps.ps rfl trivial (WpOps.nil ?_))
  refine WpC.seqR ?_
  refine WpOps.ps rfl trivial ?_
  refine WpOps.consG rfl rfl (WpO.call rfl rfl rfl ((bdd_New (v := v) H).mono ?_ (fun _ _ h => h.elim)))
  intro x H1 hx
  by_cases hv : 0 ≤ v ∧ v ≤ 8
  case neg =>
    rw [if_neg hv] at hx
    obtain ⟨rfl, rfl⟩ := hx
    refine WpOps.ps rfl trivial (WpOps.nil ?_)
    refine WpC.seq ?_
    refine WpC.seqR (WpOps.ps rfl trivial (WpOps.nil ?_))
    refine WpC.condT rfl ?_
    refine WpC.seqR (WpOps.ps rfl trivial (WpOps.nil ?_))
    refine WpC.ret ?_
    exact VEnds.ret2 rfl rfl rfl (.inl ⟨rfl, hv⟩)
  rw [if_pos hv] at hx
  obtain ⟨g, ga, c, gm, rfl, a1, hle1, hg, hga, hgm⟩ := hx
  obtain ⟨v, rfl⟩ : ∃ k : Nat, v = k := ⟨v.toNat, by omega⟩
  rw [Int.toNat_natCast] at a1
  have hv8 : v ≤ 8 := by omega
  have h8 := pow8 hv8
  refine WpOps.ps rfl trivial (WpOps.nil ?_)
  refine WpC.seq ?_
  refine WpC.seqR (WpOps.ps rfl trivial (WpOps.nil ?_))
  refine WpC.condF rfl ?_
  refine WpC.skip ?_
  refine WpC.seqR ?_
  refine WpOps.ps rfl trivial ?_
  refine WpOps.consG rfl rfl (WpO.litSlice (e := 35) rfl rfl rfl fun gl hgl => ?_)
  refine WpOps.ps rfl trivial ?_
  refine WpOps.consE rfl rfl (Exact.call rfl rfl rfl (ref_same hv8 _)) ?_
  refine WpOps.ps rfl trivial ?_
  refine WpOps.consE rfl rfl (Exact.call rfl rfl rfl (ref_same hv8 _)) ?_
  refine WpOps.consG rfl rfl (WpO.litSlice (e := 39) rfl rfl rfl fun gt hgt => ?_)
  refine WpOps.ps rfl trivial ?_
  refine WpOps.consG rfl rfl (WpO.box rfl rfl fun gw hgw => ?_)
  refine WpOps.ps rfl trivial (WpOps.nil ?_)
  refine WpC.seq ?_
  refine WpC.seqR (WpOps.ps rfl trivial (WpOps.nil ?_))
  refine WpC.block ?_
  obtain ⟨H2, e2⟩ : ∃ H2, H2 = H1.set gl (.row 35 1 [nA 0, nA 1] 2) := ⟨_, rfl⟩
  obtain ⟨H3, e3⟩ : ∃ H3, H3 = H2.set gt (.row 39 1 [encT v [⟨v, 0, 0⟩, ⟨v, 0, 0⟩] 0, encT v [⟨v, 0, 0⟩, ⟨v, 0, 0⟩] 1] 2) := ⟨_, rfl⟩
  obtain ⟨H4, e4⟩ : ∃ H4, H4 = H3.set gw (.cells 31 [pA g, iA v, .own 2 (some (gl, 2)), .own 2 (some (gt, 2))]) := ⟨_, rfl⟩
  have hgt : H2 gt = none := by rw [e2]; exact hgt
  have hgw : H3 gw = none := by rw [e3, e2]; exact hgw
  refine WpC.heap (show _ = H4 from by rw [e4, e3, e2]; rfl) ?_
  have le2 : H1.le H2 := by rw [e2]; exact Heap.set_drop hgl _
  have le3 : H2.le H3 := by rw [e3]; exact Heap.set_drop hgt _
  have le4 : H3.le H4 := by rw [e4]; exact Heap.set_drop hgw _
  have w4 : InW H4 v [⟨v, 0, 0⟩, ⟨v, 0, 0⟩] [0, 1] gw g ga c gm [] gl 2 gt 2 :=
    ⟨a1.le (Heap.le_trans le2 (Heap.le_trans le3 le4)), by rw [e4]; exact Heap.set_same _ _ _, le4 _ _ (le3 _ _ (by rw [e2]; exact Heap.set_same _ _ _)), le4 _ _ (by rw [e3]; exact Heap.set_same _ _ _), fun n hn => by simp at hn ⊢; omega⟩
  refine WpC.loopK (fun x : Nat => [(9, iA x), (1, .rows 6 (l.map encO)), (8, pA gw)]) (fun x H' => x ≤ l.length ∧ x ≤ 30 ∧ ∃ ds ns ga c es gl cl gt ct, InW H' v ds ns gw g ga c gm es gl cl gt ct ∧ 2 ≤ ns.length ∧ ns.length ≤ 2 + x ∧ ds.length ≤ 2 + 1024 * x) (fun x => l.length - x) 0 ⟨rfl, rfl, rfl, trivial⟩
    ⟨Nat.zero_le _, by omega, _, _, _, _, _, _, _, _, _, w4, by simp, by simp, by simp⟩ ?_
  rintro k env H5 ⟨hk, hk30, ds, ns, ga, c, es, gl, cl, gt, ct, w, hn2, hnk, hdk⟩
  refine WpC.seq ?_
  refine WpC.seqR ?_
  refine WpOps.cutB 8 37 (.lit (.bool (decide (k < l.length ∧ k < 30)))) rfl ?_ ?_
  · refine WpOps.pn 5 rfl trivial ?_
    refine WpOps.split 34 rfl ?_ ?_
    · intro h
      refine WpOps.ps rfl trivial (WpOps.nil ⟨?_, rfl⟩)
      have h : k < l.length := ltlen.1 (of_decide_eq_true h)
      exact congrArg (fun b => AV.lit (.bool b)) (decide_eq_decide.2 (by show (k : Int) < 30 ↔ _; omega))
    · intro h
      refine WpOps.ps rfl trivial (WpOps.nil ⟨?_, rfl⟩)
      have h : ¬ k < l.length := fun h2 => by
        have h3 := decide_eq_false_iff_not.1 h
        exact h3 (ltlen.2 h2)
      exact congrArg (fun b => AV.lit (.bool b)) (decide_eq_false (fun h2 => h h2.1)).symm
  intro env0
  refine WpOps.nil ?_
  refine WpC.condP rfl ?_ ?_
  · rintro ⟨hkl, hk3⟩
    obtain ⟨o, ho⟩ : ∃ o, l[k]? = some o := ⟨_, List.getElem?_eq_getElem hkl⟩
    have ok := hl o (List.mem_of_getElem? ho)
    refine WpC.skip ?_
    refine WpC.seq ?_
    refine WpC.block ?_
    refine WpC.seqR ?_
    refine WpOps.ps rfl trivial ?_
    refine WpOps.consE rfl rfl (Exact.indexAddr_rows rfl rfl rfl (map_at ho) rfl rfl (by decide)) ?_
    refine WpOps.consE rfl rfl (Exact.load_rop rfl rfl rfl) ?_
    refine WpOps.consG rfl rfl (WpO.call rfl rfl rfl ((law_play w hv8 (by omega) (by omega) ok.hA ok.hB ok.hC).mono ?_ (fun _ _ h => h.elim)))
    rintro x H6 (⟨rfl, rfl⟩ | ⟨r, ds', ga', c', es', rfl, w6, x6, lt6, len6, kept6⟩)
    · refine WpOps.ps rfl trivial (WpOps.nil ?_)
      refine WpC.seq ?_
      refine WpC.seqR (WpOps.ps rfl trivial (WpOps.nil ?_))
      refine WpC.condF rfl ?_
      refine WpC.skip ?_
      refine WpC.seqR (WpOps.ps rfl trivial (WpOps.nil ?_))
      refine WpC.condF rfl ?_
      refine WpC.skip ?_
      refine WpC.region (WpOps.ps rfl (by simp only [conj, inR]; omega) (WpOps.nil ?_))
      exact ⟨k + 1, by omega, ⟨rfl, rfl, rfl, trivial⟩, by omega, by omega, ds, ns, ga, c, es, gl, cl, gt, ct, w, hn2, by omega, by omega⟩
    · refine WpOps.ps rfl trivial (WpOps.nil ?_)
      refine WpC.seq ?_
      refine WpC.seqR ?_
      refine WpOps.pn 3 rfl trivial ?_
      refine WpOps.consE rfl rfl (Exact.rows_nil (e := 4) rfl rfl rfl rfl (fun h => by have := congrArg List.length h; simp at this)) ?_
      refine WpOps.ps rfl trivial (WpOps.nil ?_)
      refine WpC.condF rfl ?_
      refine WpC.skip ?_
      refine WpC.seqR (WpOps.ps rfl trivial (WpOps.nil ?_))
      refine WpC.condT rfl ?_
      refine WpC.seqR ?_
      refine WpOps.ps rfl trivial ?_
      refine WpOps.consE rfl rfl (Exact.load rfl rfl w6.box rfl rfl) ?_
      refine WpOps.ps rfl trivial ?_
      refine WpOps.consE rfl rfl (Exact.litSlice rfl rfl) ?_
      refine WpOps.consG rfl rfl (WpO.append rfl node_ek rfl w6.l (by simp) rfl (.rows _) (by simp [AV.one, Value.oneCell']) (by simp; omega) (by simp; omega) fun gl' cl' hgl' hcl' => ?_)
      obtain ⟨H7, e7⟩ : ∃ H7, H7 = (H6.del gl).set gl' (.row 35 1 ((ns.map nA).take ns.length ++ [nA r]) cl') := ⟨_, rfl⟩
      refine WpOps.heap e7.symm ?_
      have u7 : ∀ k o, H6 k = some o → k ≠ gl → H7 k = some o := fun k o hk h1 => by
        have h2 : k ≠ gl' := fun e => by
          rcases hgl' with h | h
          · exact h1 (e.trans h)
          · rw [← e, hk] at h; cases h
        rw [e7, Heap.set_ne _ _ h2]; simp only [Heap.del]; rw [if_neg h1]; exact hk
      have l7 : H7 gl' = some (.row 35 1 ((ns ++ [r]).map nA) cl') := by rw [e7, Heap.set_same, List.map_append, List.take_of_length_le (by simp)]; rfl
      have n1 : gw ≠ gl := Heap.ne_of w6.box w6.l (by simp)
      have n2 : gt ≠ gl := Heap.ne_of w6.t w6.l (by simp)
      have n3 : g ≠ gl := Heap.ne_of w6.ar.box w6.l (by simp)
      have n4 : ga' ≠ gl := Heap.ne_of w6.ar.row w6.l (by simp)
      have n5 : gm ≠ gl := Heap.ne_of w6.ar.map w6.l (by simp)
      have box7 := u7 _ _ w6.box n1
      refine WpOps.ps rfl trivial ?_
      refine WpOps.consG rfl rfl (WpO.put rfl rfl box7 rfl rfl rfl rfl rfl rfl ?_)
      refine WpOps.nil ?_
      obtain ⟨H8, e8⟩ : ∃ H8, H8 = H7.set gw (.cells 31 [pA g, iA v, .own (ns.length + 1) (some (gl', cl')), .own ns.length (some (gt, ct))]) := ⟨_, rfl⟩
      refine WpC.heap (show _ = H8 from e8.symm) ?_
      have u8 : ∀ k o, H7 k = some o → k ≠ gw → H8 k = some o := fun k o hk h1 => by rw [e8]; exact Heap.set_far hk h1
      have box8 : H8 gw = some (.cells 31 [pA g, iA v, .own (ns.length + 1) (some (gl', cl')), .own ns.length (some (gt, ct))]) := by rw [e8]; exact Heap.set_same _ _ _
      have m1 : gt ≠ gw := Heap.ne_of w6.t w6.box (by simp)
      have m2 : gl' ≠ gw := Heap.ne_of l7 box7 (by simp)
      have m3 : g ≠ gw := Heap.ne_of w6.ar.box w6.box (by simp)
      have m4 : ga' ≠ gw := Heap.ne_of w6.ar.row w6.box (by simp)
      have m5 : gm ≠ gw := Heap.ne_of w6.ar.map w6.box (by simp)
      have t8 := u8 _ _ (u7 _ _ w6.t n2) m1
      have l8 := u8 _ _ l7 m2
      refine WpC.region ?_
      refine WpOps.ps rfl trivial ?_
      refine WpOps.consE rfl rfl (Exact.load rfl rfl box8 rfl rfl) ?_
      refine WpOps.ps rfl trivial ?_
      refine WpOps.consE rfl rfl (Exact.litSlice rfl rfl) ?_
      refine WpOps.consG rfl rfl (WpO.append rfl tab_ek2 rfl t8 (by simp) rfl (.rows _) (by simp [AV.one, tb]) (by simp; omega) (by simp; omega) fun gt' ct' hgt' hct' => ?_)
      obtain ⟨H9, e9⟩ : ∃ H9, H9 = (H8.del gt).set gt' (.row 39 1 ((ns.map (encT v ds')).take ns.length ++ [encT v ds' r]) ct') := ⟨_, rfl⟩
      refine WpOps.heap (show _ = H9 from e9.symm) ?_
      have u9 : ∀ k o, H8 k = some o → k ≠ gt → H9 k = some o := fun k o hk h1 => by
        have h2 : k ≠ gt' := fun e => by
          rcases hgt' with h | h
          · exact h1 (e.trans h)
          · rw [← e, hk] at h; cases h
        rw [e9, Heap.set_ne _ _ h2]; simp only [Heap.del]; rw [if_neg h1]; exact hk
      have t9 : H9 gt' = some (.row 39 1 ((ns ++ [r]).map (encT v ds')) ct') := by rw [e9, Heap.set_same, List.map_append, List.take_of_length_le (by simp)]; rfl
      have box9 := u9 _ _ box8 m1.symm
      refine WpOps.ps rfl trivial ?_
      refine WpOps.consG rfl rfl (WpO.put rfl rfl box9 rfl rfl rfl rfl rfl rfl ?_)
      refine WpOps.nil ?_
      obtain ⟨H10, e10⟩ : ∃ H10, H10 = H9.set gw (.cells 31 [pA g, iA v, .own (ns.length + 1) (some (gl', cl')), .own (ns.length + 1) (some (gt', ct'))]) := ⟨_, rfl⟩
      refine WpC.heap (show _ = H10 from e10.symm) ?_
      have u10 : ∀ k o, H9 k = some o → k ≠ gw → H10 k = some o := fun k o hk h1 => by rw [e10]; exact Heap.set_far hk h1
      have q1 : gl' ≠ gt := Heap.ne_of l8 t8 (by simp)
      have q2 : gt' ≠ gw := Heap.ne_of t9 box9 (by simp)
      have q3 : g ≠ gt := Heap.ne_of w6.ar.box w6.t (by simp)
      have q4 : ga' ≠ gt := Heap.ne_of w6.ar.row w6.t (by simp)
      have q5 : gm ≠ gt := Heap.ne_of w6.ar.map w6.t (by simp)
      have up : ∀ k o, H6 k = some o → k ≠ gl → k ≠ gw → k ≠ gt → H10 k = some o := fun k o hk h1 h2 h3 => u10 _ _ (u9 _ _ (u8 _ _ (u7 _ _ hk h1) h2) h3) h2
      have w10 : InW H10 v ds' (ns ++ [r]) gw g ga' c' gm es' gl' cl' gt' ct' := by
        refine ⟨⟨up _ _ w6.ar.box n3 m3 q3, up _ _ w6.ar.row n4 m4 q4, up _ _ w6.ar.map n5 m5 q5, w6.ar.keys, w6.ar.known, w6.ar.wf⟩, ?_, u10 _ _ (u9 _ _ l8 q1) m2, u10 _ _ t9 q2, fun n hn => ?_⟩
        · rw [e10, Heap.set_same, List.length_append]; rfl
        · rcases List.mem_append.1 hn with h | h
          · exact w6.lt n h
          · simp at h; subst h; exact lt6
      refine WpC.region (WpOps.ps rfl (by simp only [conj, inR]; omega) (WpOps.nil ?_))
      have z1 : 2 ≤ (ns ++ [r]).length := by rw [List.length_append]; omega
      have z2 : (ns ++ [r]).length ≤ 2 + (k + 1) := by rw [List.length_append]; simp only [List.length_cons, List.length_nil]; omega
      have z3 : ds'.length ≤ 2 + 1024 * (k + 1) := Nat.le_trans len6 (Nat.le_trans (Nat.add_le_add_right hdk 1024) (Nat.le_of_eq (by rw [Nat.mul_add, Nat.mul_one, Nat.add_assoc])))
      have z4 : k + 1 ≤ l.length := by omega
      have z5 : k + 1 ≤ 30 := by omega
      have z6 : l.length - (k + 1) < l.length - k := by omega
      exact ⟨k + 1, z6, ⟨rfl, rfl, rfl, trivial⟩, z4, z5, ds', ns ++ [r], ga', c', es', gl', cl', gt', ct', w10, z1, z2, z3⟩
  · intro hc
    refine WpC.exit ?_
    refine WpC.seqR (WpOps.ps rfl trivial (WpOps.nil ?_))
    refine WpC.ret ?_
    refine VEnds.ret2 rfl rfl rfl ?_
    exact .inr ⟨ds, ns, gw, g, ga, c, gm, es, gl, cl, gt, ct, hv.1, hv.2, rfl, w, hn2, by omega, by omega⟩
end Go.Proofs.Ytkhgiieglpdejaa
