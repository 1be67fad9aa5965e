/-
  What is proved: the law BddApart answers true, for every input; condition: none beyond the statement's own.
-/
import Derived.Test.YtkhgiieglpdejaaLift
set_option linter.unusedVariables false
set_option linter.unusedSimpArgs false
namespace Go.Proofs.Ytkhgiieglpdejaa
open Go Go.ChangeShapes Go.WideShapes Go.ChangeAt Go.RowKit Go.Vc Go.Vc.Bdd
attribute [local irreducible] WpC WpOps WpPi WpO Exact TCall VEnds

set_option maxRecDepth 20000 in
theorem apart_call {v : Int} {l more : List Op6} (hl : ∀ o ∈ l, o.Ok) (hm : ∀ o ∈ more, o.Ok) (H : Heap) : TCall Try.prog 6 [zI v, .rows 6 (l.map encO), .rows 6 (more.map encO)] H (fun x _ => x = .lit (.bool true)) noE := by
  refine TCall.body Try.func6 rfl rfl ?_
  refine WpC.seqR (WpOps.ps rfl trivial (WpOps.nil ?_))
  refine WpC.seqR ?_
  refine WpOps.consE rfl rfl (Exact.call rfl rfl rfl (law_awake _)) ?_
  refine WpOps.ps rfl trivial (WpOps.nil ?_)
  refine WpC.seq ?_
  by_cases h10 : 15 < l.length ∨ 15 < more.length
  · refine WpC.seqR ?_
    refine WpOps.cutB 8 26 (.lit (.bool true)) rfl ?_ ?_
    · refine WpOps.pn 4 rfl trivial ?_
      refine WpOps.split 22 rfl ?_ ?_
      · intro h
        have h := of_decide_eq_true h
        rw [List.length_map] at h
        refine WpOps.ps rfl trivial (WpOps.nil ⟨?_, rfl⟩)
        rfl
      · intro h
        have h := of_decide_eq_false h
        rw [List.length_map] at h
        refine WpOps.ps rfl trivial (WpOps.nil ⟨?_, rfl⟩)
        exact congrArg (fun b => AV.lit (.bool b)) (decide_eq_true (by rw [List.length_map]; omega))
    intro env0
    refine WpOps.nil ?_
    refine WpC.condT rfl ?_
    refine WpC.seqR (WpOps.ps rfl trivial (WpOps.nil ?_))
    refine WpC.ret ?_
    refine VEnds.ret1 rfl rfl ?_
    exact rfl
  refine WpC.seqR ?_
  refine WpOps.cutB 8 26 (.lit (.bool false)) rfl ?_ ?_
  · refine WpOps.pn 4 rfl trivial ?_
    refine WpOps.split 22 rfl ?_ ?_
    · intro h
      have h := of_decide_eq_true h
      rw [List.length_map] at h
      refine WpOps.ps rfl trivial (WpOps.nil ⟨?_, rfl⟩)
      omega
    · intro h
      have h := of_decide_eq_false h
      rw [List.length_map] at h
      refine WpOps.ps rfl trivial (WpOps.nil ⟨?_, rfl⟩)
      exact congrArg (fun b => AV.lit (.bool b)) (decide_eq_false (by rw [List.length_map]; omega))
  intro env0
  refine WpOps.nil ?_
  refine WpC.condF rfl ?_
  refine WpC.skip ?_
  refine WpC.seqR ?_
  refine WpOps.ps rfl trivial ?_
  refine WpOps.consG rfl rfl (WpO.call rfl rfl rfl ((law_built hl (by omega) _).mono ?_ (fun _ _ h => h.elim)))
  intro x H1 hx
  rcases hx with ⟨rfl, hvn⟩ | ⟨ds, ns, gw, g, ga, c, gm, es, gl, cl, gt, ct, hv0, hv8, rfl, w, hn2, hnk, hdk⟩
  · refine WpOps.ps rfl trivial (WpOps.nil ?_)
    refine WpC.seq ?_
    refine WpC.seqR (WpOps.ps rfl trivial (WpOps.nil ?_))
    refine WpC.condT rfl ?_
    refine WpC.seqR (WpOps.ps rfl trivial (WpOps.nil ?_))
    refine WpC.ret ?_
    refine VEnds.ret1 rfl rfl ?_
    exact rfl
  obtain ⟨v, rfl⟩ : ∃ k : Nat, v = k := ⟨v.toNat, by omega⟩
  rw [Int.toNat_natCast] at w
  have hv : v ≤ 8 := by omega
  have h8 := pow8 hv
  have hnk : ns.length ≤ 32 := hnk
  have hdk : ds.length ≤ 30722 := hdk
  refine WpOps.ps rfl trivial (WpOps.nil ?_)
  refine WpC.seq ?_
  refine WpC.seqR (WpOps.ps rfl trivial (WpOps.nil ?_))
  refine WpC.condF rfl ?_
  refine WpC.skip ?_
  refine WpC.seq ?_
  refine WpC.seqR (WpOps.ps rfl trivial (WpOps.nil ?_))
  refine WpC.condF rfl ?_
  refine WpC.skip ?_
  refine WpC.seqR ?_
  refine WpOps.consG rfl rfl (WpO.litSlice (e := 35) rfl rfl rfl fun gz hgz => ?_)
  have w1 := w.le (Heap.set_drop hgz (.row 35 1 [] 0))
  refine WpOps.ps rfl trivial ?_
  refine WpOps.consE rfl rfl (Exact.load rfl rfl w1.box rfl rfl) ?_
  have src : Src (H1.set gz (.row 35 1 [] 0)) 1 (.own ns.length (some (gl, cl))) (ns.map nA) := by
    have := Src.buf (size := 1) (n := ns.length) w1.l (by simp)
    rwa [List.take_of_length_le (by simp)] at this
  refine WpOps.consG rfl rfl (WpO.append rfl node_ek rfl (Heap.set_same _ _ _) (Nat.le_refl _) rfl src (by simp [AV.one, Value.oneCell']) (by simp; omega) (by simp; omega) fun gq cq hgq hcq => ?_)
  refine WpOps.ps rfl trivial (WpOps.nil ?_)
  have hq0 : H1 gq = none := by
    rcases hgq with rfl | h
    · exact hgz
    · exact Heap.le_none (Heap.set_drop hgz _) h
  refine WpC.up (t := 10) (H' := H1) (u := .rows 1 (ns.map nA)) (Up.rows (fun k o hk => ?_) (Heap.set_same _ _ _) hq0 (by simp)) ?_
  · have d1 : k ≠ gq := fun e => by rw [e, hq0] at hk; cases hk
    have d2 : k ≠ gz := fun e => by rw [e, hgz] at hk; cases hk
    rw [Heap.set_ne _ _ d1]; simp only [Heap.del]; rw [if_neg d2, Heap.set_ne _ _ d2]; exact hk
  refine WpC.seq ?_
  refine WpC.seqR (WpOps.ps rfl trivial (WpOps.nil ?_))
  refine WpC.block ?_
  refine WpC.loopK (fun x : Nat => [(11, iA x), (2, .rows 6 (more.map encO)), (8, pA gw), (10, .rows 1 (ns.map nA)), (7, .lit (.bool true))]) (fun x H' => x ≤ more.length ∧ ∃ ds ns' ga c es gl cl gt ct, InW H' v ds ns' gw g ga c gm es gl cl gt ct ∧ (∃ tl, ns' = ns ++ tl) ∧ ns'.length ≤ ns.length + x ∧ ds.length ≤ 30722 + 1024 * x) (fun x => more.length - x) 0 ⟨rfl, rfl, rfl, rfl, rfl, trivial⟩ ⟨Nat.zero_le _, ds, ns, ga, c, es, gl, cl, gt, ct, w, ⟨[], by simp⟩, by omega, by omega⟩ ?_
  clear w hdk
  rintro k env H5 ⟨hk, ds, ns', ga, c, es, gl, cl, gt, ct, w, ⟨tl, hpre⟩, hnk2, hdk⟩
  refine WpC.seq ?_
  refine WpC.seqR (WpOps.ps rfl trivial (WpOps.nil ?_))
  refine WpC.condP rfl ?_ ?_
  · intro hc
    have hkl : k < more.length := Int.ofNat_lt.1 (by simpa using hc)
    have hp : 0 < ns'.length := by rw [hpre, List.length_append]; omega
    obtain ⟨o, ho⟩ : ∃ o, more[k]? = some o := ⟨_, List.getElem?_eq_getElem hkl⟩
    have ok := hm o (List.mem_of_getElem? ho)
    refine WpC.skip ?_
    refine WpC.seq ?_
    refine WpC.block ?_
    refine WpC.seqR ?_
    refine WpOps.ps rfl trivial ?_
    refine WpOps.consE rfl rfl (Exact.indexAddr_rows rfl rfl rfl (map_at ho) rfl rfl (by decide)) ?_
    refine WpOps.consE rfl rfl (Exact.load_rop rfl rfl rfl) ?_
    refine WpOps.consG rfl rfl (WpO.call rfl rfl rfl ((law_play w hv (by omega) (by omega) ok.hA ok.hB ok.hC).mono ?_ (fun _ _ h => h.elim)))
    rintro x H6 (⟨rfl, rfl⟩ | ⟨r, ds', ga', c', es', rfl, w6, x6, lt6, len6, kept6⟩)
    · refine WpOps.ps rfl trivial (WpOps.nil ?_)
      refine WpC.seq ?_
      refine WpC.seqR (WpOps.ps rfl trivial (WpOps.nil ?_))
      refine WpC.condF rfl ?_
      refine WpC.skip ?_
      refine WpC.seqR (WpOps.ps rfl trivial (WpOps.nil ?_))
      refine WpC.condF rfl ?_
      refine WpC.skip ?_
      refine WpC.region (WpOps.ps rfl (by simp only [conj, inR]; omega) (WpOps.nil ?_))
      exact ⟨k + 1, meas hkl, ⟨rfl, rfl, rfl, rfl, rfl, trivial⟩, hkl, ds, ns', ga, c, es, gl, cl, gt, ct, w, ⟨tl, hpre⟩, by omega, by omega⟩
    · refine WpOps.ps rfl trivial (WpOps.nil ?_)
      refine WpC.seq ?_
      refine WpC.seqR ?_
      refine WpOps.pn 3 rfl trivial ?_
      refine WpOps.consE rfl rfl (Exact.rows_nil (e := 4) rfl rfl rfl rfl (fun h => by have := congrArg List.length h; simp at this)) ?_
      refine WpOps.ps rfl trivial (WpOps.nil ?_)
      refine WpC.condF rfl ?_
      refine WpC.skip ?_
      refine WpC.seqR (WpOps.ps rfl trivial (WpOps.nil ?_))
      refine WpC.condT rfl ?_
      refine WpC.seqR ?_
      refine WpOps.ps rfl trivial ?_
      refine WpOps.consE rfl rfl (Exact.load rfl rfl w6.box rfl rfl) ?_
      refine WpOps.ps rfl trivial ?_
      refine WpOps.consE rfl rfl (Exact.litSlice rfl rfl) ?_
      refine WpOps.consG rfl rfl (WpO.append rfl node_ek rfl w6.l (by simp) rfl (.rows _) (by simp [AV.one, Value.oneCell']) (by simp; omega) (by simp; omega) fun gl' cl' hgl' hcl' => ?_)
      obtain ⟨H7, e7⟩ : ∃ H7, H7 = (H6.del gl).set gl' (.row 35 1 ((ns'.map nA).take ns'.length ++ [nA r]) cl') := ⟨_, rfl⟩
      refine WpOps.heap e7.symm ?_
      have u7 : ∀ k o, H6 k = some o → k ≠ gl → H7 k = some o := fun k o hk h1 => by
        have h2 : k ≠ gl' := fun e => by
          rcases hgl' with h | h
          · exact h1 (e.trans h)
          · rw [← e, hk] at h; cases h
        rw [e7, Heap.set_ne _ _ h2]; simp only [Heap.del]; rw [if_neg h1]; exact hk
      have l7 : H7 gl' = some (.row 35 1 ((ns' ++ [r]).map nA) cl') := by rw [e7, Heap.set_same, List.map_append, List.take_of_length_le (by simp)]; rfl
      have n1 : gw ≠ gl := Heap.ne_of w6.box w6.l (by simp)
      have n2 : gt ≠ gl := Heap.ne_of w6.t w6.l (by simp)
      have n3 : g ≠ gl := Heap.ne_of w6.ar.box w6.l (by simp)
      have n4 : ga' ≠ gl := Heap.ne_of w6.ar.row w6.l (by simp)
      have n5 : gm ≠ gl := Heap.ne_of w6.ar.map w6.l (by simp)
      have box7 := u7 _ _ w6.box n1
      refine WpOps.ps rfl trivial ?_
      refine WpOps.consG rfl rfl (WpO.put rfl rfl box7 rfl rfl rfl rfl rfl rfl ?_)
      refine WpOps.nil ?_
      obtain ⟨H8, e8⟩ : ∃ H8, H8 = H7.set gw (.cells 31 [pA g, iA v, .own (ns'.length + 1) (some (gl', cl')), .own ns'.length (some (gt, ct))]) := ⟨_, rfl⟩
      refine WpC.heap (show _ = H8 from e8.symm) ?_
      have u8 : ∀ k o, H7 k = some o → k ≠ gw → H8 k = some o := fun k o hk h1 => by rw [e8]; exact Heap.set_far hk h1
      have box8 : H8 gw = some (.cells 31 [pA g, iA v, .own (ns'.length + 1) (some (gl', cl')), .own ns'.length (some (gt, ct))]) := by rw [e8]; exact Heap.set_same _ _ _
      have m1 : gt ≠ gw := Heap.ne_of w6.t w6.box (by simp)
      have m2 : gl' ≠ gw := Heap.ne_of l7 box7 (by simp)
      have m3 : g ≠ gw := Heap.ne_of w6.ar.box w6.box (by simp)
      have m4 : ga' ≠ gw := Heap.ne_of w6.ar.row w6.box (by simp)
      have m5 : gm ≠ gw := Heap.ne_of w6.ar.map w6.box (by simp)
      have t8 := u8 _ _ (u7 _ _ w6.t n2) m1
      have l8 := u8 _ _ l7 m2
      refine WpC.region ?_
      refine WpOps.ps rfl trivial ?_
      refine WpOps.consE rfl rfl (Exact.load rfl rfl box8 rfl rfl) ?_
      refine WpOps.ps rfl trivial ?_
      refine WpOps.consE rfl rfl (Exact.litSlice rfl rfl) ?_
      refine WpOps.consG rfl rfl (WpO.append rfl tab_ek2 rfl t8 (by simp) rfl (.rows _) (by simp [AV.one, tb]) (by simp; omega) (by simp; omega) fun gt' ct' hgt' hct' => ?_)
      obtain ⟨H9, e9⟩ : ∃ H9, H9 = (H8.del gt).set gt' (.row 39 1 ((ns'.map (encT v ds')).take ns'.length ++ [encT v ds' r]) ct') := ⟨_, rfl⟩
      refine WpOps.heap (show _ = H9 from e9.symm) ?_
      have u9 : ∀ k o, H8 k = some o → k ≠ gt → H9 k = some o := fun k o hk h1 => by
        have h2 : k ≠ gt' := fun e => by
          rcases hgt' with h | h
          · exact h1 (e.trans h)
          · rw [← e, hk] at h; cases h
        rw [e9, Heap.set_ne _ _ h2]; simp only [Heap.del]; rw [if_neg h1]; exact hk
      have t9 : H9 gt' = some (.row 39 1 ((ns' ++ [r]).map (encT v ds')) ct') := by rw [e9, Heap.set_same, List.map_append, List.take_of_length_le (by simp)]; rfl
      have box9 := u9 _ _ box8 m1.symm
      refine WpOps.ps rfl trivial ?_
      refine WpOps.consG rfl rfl (WpO.put rfl rfl box9 rfl rfl rfl rfl rfl rfl ?_)
      refine WpOps.nil ?_
      obtain ⟨H10, e10⟩ : ∃ H10, H10 = H9.set gw (.cells 31 [pA g, iA v, .own (ns'.length + 1) (some (gl', cl')), .own (ns'.length + 1) (some (gt', ct'))]) := ⟨_, rfl⟩
      refine WpC.heap (show _ = H10 from e10.symm) ?_
      have u10 : ∀ k o, H9 k = some o → k ≠ gw → H10 k = some o := fun k o hk h1 => by rw [e10]; exact Heap.set_far hk h1
      have q1 : gl' ≠ gt := Heap.ne_of l8 t8 (by simp)
      have q2 : gt' ≠ gw := Heap.ne_of t9 box9 (by simp)
      have q3 : g ≠ gt := Heap.ne_of w6.ar.box w6.t (by simp)
      have q4 : ga' ≠ gt := Heap.ne_of w6.ar.row w6.t (by simp)
      have q5 : gm ≠ gt := Heap.ne_of w6.ar.map w6.t (by simp)
      have up : ∀ k o, H6 k = some o → k ≠ gl → k ≠ gw → k ≠ gt → H10 k = some o := fun k o hk h1 h2 h3 => u10 _ _ (u9 _ _ (u8 _ _ (u7 _ _ hk h1) h2) h3) h2
      have w10 : InW H10 v ds' (ns' ++ [r]) gw g ga' c' gm es' gl' cl' gt' ct' := by
        refine ⟨⟨up _ _ w6.ar.box n3 m3 q3, up _ _ w6.ar.row n4 m4 q4, up _ _ w6.ar.map n5 m5 q5, w6.ar.keys, w6.ar.known, w6.ar.wf⟩, ?_, u10 _ _ (u9 _ _ l8 q1) m2, u10 _ _ t9 q2, fun n hn => ?_⟩
        · rw [e10, Heap.set_same, List.length_append]; rfl
        · rcases List.mem_append.1 hn with h | h
          · exact w6.lt n h
          · simp at h; subst h; exact lt6
      refine WpC.region (WpOps.ps rfl (by simp only [conj, inR]; omega) (WpOps.nil ?_))
      have z2 : (ns' ++ [r]).length ≤ ns.length + (k + 1) := by rw [List.length_append]; simp only [List.length_cons, List.length_nil]; omega
      have z3 : ds'.length ≤ 30722 + 1024 * (k + 1) := Nat.le_trans len6 (Nat.le_trans (Nat.add_le_add_right hdk 1024) (Nat.le_of_eq (by rw [Nat.mul_add, Nat.mul_one, Nat.add_assoc])))
      have z4 : k + 1 ≤ more.length := by omega
      have z6 : more.length - (k + 1) < more.length - k := by omega
      exact ⟨k + 1, z6, ⟨rfl, rfl, rfl, rfl, rfl, trivial⟩, z4, ds', ns' ++ [r], ga', c', es', gl', cl', gt', ct', w10, ⟨tl ++ [r], by rw [hpre, List.append_assoc]⟩, z2, z3⟩
  · intro hc
    refine WpC.exit ?_
    refine WpC.seq ?_
    refine WpC.seqR (WpOps.ps rfl trivial (WpOps.nil ?_))
    refine WpC.block ?_
    refine WpC.loopK (fun x : Nat => [(15, iA x), (10, .rows 1 (ns.map nA)), (8, pA gw), (7, .lit (.bool true))]) (fun x H' => x ≤ ns.length ∧ H' = H5) (fun x => ns.length - x) 0 ⟨rfl, rfl, rfl, rfl, trivial⟩ ⟨Nat.zero_le _, rfl⟩ ?_
    rintro j env H6 ⟨hj, rfl⟩
    refine WpC.seq ?_
    refine WpC.seqR (WpOps.ps rfl trivial (WpOps.nil ?_))
    refine WpC.condP rfl ?_ ?_
    · intro hc
      have lj : j < ns.length := ltlen.1 hc
      obtain ⟨n, hnj⟩ : ∃ n, ns[j]? = some n := ⟨_, List.getElem?_eq_getElem lj⟩
      have hk : ns'[j]? = some n := by rw [hpre, List.getElem?_append_left lj]; exact hnj
      have lk : j < ns'.length := by rw [hpre, List.length_append]; omega
      have hn := w.lt n (List.mem_of_getElem? hk)
      refine WpC.skip ?_
      refine WpC.seq ?_
      refine WpC.block ?_
      refine WpC.seqD [.I, .I, .I, .S, .I, .I, .I, .I, .S] [0, 1, 2, 3, 4, 5, 6, 7, 8, 9, 10, 11, 12, 13] (by kernel_rfl) (by kernel_rfl) ?_
      refine WpPi.ps rfl trivial ?_
      refine WpPi.consS rfl rfl rfl rfl (Exact.load rfl rfl w.box rfl rfl) ?_
      refine WpPi.ps rfl trivial ?_
      refine WpPi.consI rfl rfl rfl rfl (fun _ => Exact.indexAddr_rows rfl rfl rfl (map_at hnj) rfl rfl (by decide)) ?_
      refine WpPi.consI rfl rfl rfl rfl (fun _ => Exact.load_rop rfl rfl rfl) ?_
      refine WpPi.consS rfl rfl rfl rfl (Exact.call rfl rfl rfl (bdd_Count' w.ar hv (n := n) hn (by omega))) ?_
      refine WpPi.ps rfl trivial (WpPi.nil ?_)
      refine WpC.seqR ?_
      refine WpOps.ps rfl trivial ?_
      refine WpOps.consE rfl rfl (Exact.load rfl rfl w.box rfl rfl) ?_
      refine WpOps.ps rfl trivial ?_
      refine WpOps.consE rfl rfl (Exact.indexAddr_buf (size := 1) rfl rfl rfl lk rfl rfl (by decide)) ?_
      refine WpOps.consE rfl rfl (Exact.load_row (i := j) (f := 0) rfl rfl w.t rfl (by decide) (map_at hk) rfl) ?_
      refine WpOps.consE rfl rfl (Exact.call rfl rfl rfl (ref_count h8 _)) ?_
      refine WpOps.pn 1 rfl trivial ?_
      refine WpOps.at 114 (neq_self _) ?_
      refine WpOps.nil ?_
      refine WpC.condF rfl ?_
      refine WpC.skip ?_
      refine WpC.region (WpOps.ps rfl (by simp only [conj, inR]; omega) (WpOps.nil ?_))
      exact ⟨j + 1, meas lj, ⟨rfl, rfl, rfl, rfl, trivial⟩, lj, rfl⟩
    · intro hc
      refine WpC.exit ?_
      refine WpC.seqR (WpOps.ps rfl trivial (WpOps.nil ?_))
      refine WpC.ret ?_
      refine VEnds.ret1 rfl rfl ?_
      exact rfl

theorem apart_lifted (os : Os) (started : os.Started) (H : Type) (enc : TypeId × Value → H) :
    ReturnsInHanded {} Try.checked os 6 .any (Rows.bddApartSpec.pre6 enc Try.prog Try.f6 Rows.bddApartRow.domain false) (Rows.bddApartSpec.post enc Try.prog Try.f6 false true false false) := by
  refine returnsInHanded_of_change (C := Try.checked) Try.own started (by kernel_rfl) Try.func6
    (ChangeSpec.witness6 (enc := enc) (C := Try.checked) false ⟨#[], #[.int .i64 0, .slice none 0 0, .slice none 0 0], []⟩ 8 (by kernel_rfl) (by kernel_rfl) (by kernel_rfl) (by kernel_rfl)) ?_
  intro W base args ds gs before hval hW _ _
  refine law_post (P := Try.prog) (n := 8) ⟨rfl, fun H ds h => ?_⟩ Try.laidOut (by kernel_rfl) (by kernel_rfl) (show Try.f6.resultTypes = #[4] by kernel_rfl) Try.underlying4 hval hW fun xs hx => ?_
  · match ds, h with
    | [d0, d1, d2], _ => rfl
  · rw [Try.params6] at hx
    obtain ⟨i, r, wi, rfl, h1⟩ := ArgsC.int Try.underlying3 hx
    obtain ⟨l, r, hl, hll, rfl, h2⟩ := args_ops h1
    obtain ⟨more, r, hm, hmm, rfl, h3⟩ := args_ops h2
    cases h3
    exact apart_call hl hm _

theorem apart_holds : Rows.BddApartSaid :=
  OpenClaim.holds_of_wide 6 Try.f6 rfl rfl rfl rfl rfl rfl rfl ⟨rfl, rfl, rfl, rfl, rfl⟩ rfl rfl rfl rfl rfl (by kernel_rfl) Try.func6 (by kernel_rfl)
    (of_decide_eq_true (by kernel_rfl)) (by unfold Func.isWrapper; first | (rw [if_pos (by decide +kernel)]; kernel_rfl) | (rw [if_neg (by decide +kernel)]; exact ⟨rfl, rfl⟩))
    (fun os started H enc _ => apart_lifted os started H enc)
end Go.Proofs.Ytkhgiieglpdejaa
