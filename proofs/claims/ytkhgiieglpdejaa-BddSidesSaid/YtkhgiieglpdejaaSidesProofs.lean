/-
  What is proved: the law BddSides answers true, for every input; condition: none beyond the statement's own.
-/
import Derived.Test.YtkhgiieglpdejaaLift
set_option linter.unusedVariables false
set_option linter.unusedSimpArgs false
namespace Go.Proofs.Ytkhgiieglpdejaa
open Go Go.ChangeShapes Go.WideShapes Go.ChangeAt Go.RowKit Go.Vc Go.Vc.Bdd
attribute [local irreducible] WpC WpOps WpPi WpO Exact TCall VEnds

theorem countOf_congr {n : Nat} {f g : Nat → Bool} (h : ∀ k, k < n → f k = g k) : countOf n f = countOf n g := by
  unfold countOf
  rw [List.filter_congr (fun k hk => h k (List.mem_range.1 hk))]
theorem countOf_perm {v i : Nat} (hi : i < v) (f : Nat → Bool) : countOf (2 ^ v) (fun s => f (s ^^^ 2 ^ i)) = countOf (2 ^ v) f := by
  have hp : ((List.range (2 ^ v)).map (· ^^^ 2 ^ i)).Perm (List.range (2 ^ v)) := by
    refine (List.perm_ext_iff_of_nodup ?_ List.nodup_range).2 fun a => ?_
    · rw [List.nodup_iff_pairwise_ne, List.pairwise_map]
      refine List.Pairwise.imp (fun {a b} h e => h ?_) (List.nodup_iff_pairwise_ne.1 (List.nodup_range (n := 2 ^ v)))
      have := congrArg (· ^^^ 2 ^ i) e
      simpa [Nat.xor_assoc] using this
    · rw [List.mem_map]
      constructor
      · rintro ⟨b, hb, rfl⟩
        exact List.mem_range.2 (Nat.xor_lt_two_pow (List.mem_range.1 hb) (pow_lt hi))
      · intro ha
        exact ⟨a ^^^ 2 ^ i, List.mem_range.2 (Nat.xor_lt_two_pow (List.mem_range.1 ha) (pow_lt hi)), by simp [Nat.xor_assoc]⟩
  have h1 := (hp.filter f).length_eq
  rw [List.filter_map, List.length_map] at h1
  exact h1
theorem countOf_add (n : Nat) (f g : Nat → Bool) (f' g' : Nat → Bool) (h : ∀ k, k < n → (if f k then 1 else 0) + (if g k then 1 else 0) = ((if f' k then 1 else 0) + (if g' k then 1 else 0) : Nat)) : countOf n f + countOf n g = countOf n f' + countOf n g' := by
  induction n with
  | zero => rfl
  | succ n ih =>
    rw [countOf_succ, countOf_succ, countOf_succ, countOf_succ]
    have := ih fun k hk => h k (by omega)
    have := h n (by omega)
    omega
/-- both sides of a condition hold for twice as many sets -/
theorem count_sides {v i : Nat} (hi : i < v) (N : Asg → Bool) : countOf (2 ^ v) (fun s => N (upd (asg s) i true)) + countOf (2 ^ v) (fun s => N (upd (asg s) i false)) = 2 * countOf (2 ^ v) (fun s => N (asg s)) := by
  have h1 := countOf_add (2 ^ v) (fun s => N (upd (asg s) i true)) (fun s => N (upd (asg s) i false)) (fun s => N (asg s)) (fun s => N (asg (s ^^^ 2 ^ i))) (fun k hk => by
    rw [asg_xor]
    have e := upd_self (asg k) i
    cases hb : asg k i with
    | true => rw [hb] at e; rw [e, Bool.not_true]
    | false => rw [hb] at e; rw [e, Bool.not_false]; omega)
  have h2 := countOf_perm hi (fun s => N (asg s))
  omega
theorem upd_upd (s : Asg) (i : Nat) (a b : Bool) : upd (upd s i a) i b = upd s i b := by funext j; simp only [upd]; split <;> rfl
set_option maxRecDepth 20000 in
theorem sides_call {v x i : Int} {l : List Op6} (wx : inR .i64 x) (hl : ∀ o ∈ l, o.Ok) (hll : l.length ≤ 9223372036854775807) (H : Heap) : TCall Try.prog 5 [zI v, .rows 6 (l.map encO), zI x, zI i] H (fun x _ => x = .lit (.bool true)) noE := by
  refine TCall.body Try.func5 rfl rfl ?_
  refine WpC.seqR (WpOps.ps rfl trivial (WpOps.nil ?_))
  refine WpC.seqR ?_
  refine WpOps.consE rfl rfl (Exact.call rfl rfl rfl (law_awake _)) ?_
  refine WpOps.ps rfl trivial (WpOps.nil ?_)
  refine WpC.seqR ?_
  refine WpOps.ps rfl trivial ?_
  refine WpOps.consG rfl rfl (WpO.call rfl rfl rfl ((law_built hl hll _).mono ?_ (fun _ _ h => h.elim)))
  intro x H1 hx
  rcases hx with ⟨rfl, hvn⟩ | ⟨ds, ns, gw, g, ga, c, gm, es, gl, cl, gt, ct, hv0, hv8, rfl, w, hn2, hnk, hdk⟩
  · refine WpOps.ps rfl trivial (WpOps.nil ?_)
    refine WpC.seq ?_
    refine WpC.seqR (WpOps.ps rfl trivial (WpOps.nil ?_))
    refine WpC.condT rfl ?_
    refine WpC.seqR (WpOps.ps rfl trivial (WpOps.nil ?_))
    refine WpC.ret ?_
    refine VEnds.ret1 rfl rfl ?_
    exact rfl
  obtain ⟨v, rfl⟩ : ∃ k : Nat, v = k := ⟨v.toNat, by omega⟩
  rw [Int.toNat_natCast] at w
  have hv : v ≤ 8 := by omega
  have h8 := pow8 hv
  have hnk : ns.length ≤ 32 := hnk
  have hdk : ds.length ≤ 30722 := hdk
  refine WpOps.ps rfl trivial (WpOps.nil ?_)
  refine WpC.seq ?_
  refine WpC.seqR ?_
  refine WpOps.cutB 11 48 (.lit (.bool (decide (¬ (0 ≤ i ∧ i < v))))) rfl ?_ ?_
  · refine WpOps.pn 7 rfl trivial ?_
    refine WpOps.split 44 rfl ?_ ?_
    · intro h
      refine WpOps.ps rfl trivial (WpOps.nil ⟨?_, rfl⟩)
      have h : i < 0 := by simpa using h
      exact congrArg (fun b => AV.lit (.bool b)) (decide_eq_true (p := ¬ (0 ≤ i ∧ i < (v : Int))) (fun h2 => by omega)).symm
    · intro h
      refine WpOps.ps rfl trivial (WpOps.nil ⟨?_, rfl⟩)
      have h : ¬ i < 0 := by simpa using h
      exact congrArg (fun b => AV.lit (.bool b)) (decide_eq_decide.2 (by omega))
  intro env0
  refine WpOps.nil ?_
  refine WpC.condP rfl ?_ ?_
  · intro hc
    refine WpC.seqR (WpOps.ps rfl trivial (WpOps.nil ?_))
    refine WpC.ret ?_
    refine VEnds.ret1 rfl rfl ?_
    exact rfl
  · intro hc
    have hi : 0 ≤ i ∧ i < v := Decidable.of_not_not hc
    obtain ⟨i, rfl⟩ : ∃ k : Nat, i = k := ⟨i.toNat, by omega⟩
    have hi : i < v := by omega
    have hns : 0 < ns.length := by omega
    obtain ⟨j, ej⟩ : ∃ i, pickOf x ns.length = i := ⟨_, rfl⟩
    have lj : j < ns.length := ej ▸ pickOf_lt hns
    obtain ⟨n, hj⟩ : ∃ n, ns[j]? = some n := ⟨_, List.getElem?_eq_getElem lj⟩
    have mn := w.lt n (List.mem_of_getElem? hj)
    obtain ⟨N, hN⟩ : ∃ N : Asg → Bool, ∀ s, sem ds n s = N s := ⟨_, fun _ => rfl⟩
    have wf0 := w.ar.wf
    refine WpC.skip ?_
    refine WpC.seq ?_
    refine WpC.seqR (WpOps.ps rfl trivial (WpOps.nil ?_))
    refine WpC.condF rfl ?_
    refine WpC.skip ?_
    refine WpC.seqD [.I, .I, .I, .S, .I, .I, .I, .I, .S, .I, .S, .I, .S] [0, 1, 2, 3, 4, 5, 6, 7, 8, 9, 10, 11, 12, 13] (by kernel_rfl) (by kernel_rfl) ?_
    refine WpPi.ps rfl trivial ?_
    refine WpPi.consS rfl rfl rfl rfl (Exact.load rfl rfl w.box rfl rfl) ?_
    refine WpPi.ps rfl trivial ?_
    refine WpPi.consS rfl rfl rfl rfl (Exact.load rfl rfl w.box rfl rfl) ?_
    refine WpPi.ps rfl trivial ?_
    refine WpPi.consS rfl rfl rfl rfl (Exact.call rfl rfl rfl (law_pick wx hns _)) ?_
    refine WpPi.at 62 (congrArg (fun z : Nat => iA z) ej) ?_
    refine WpPi.consI rfl rfl rfl rfl (fun _ => Exact.indexAddr_buf (size := 1) rfl rfl rfl lj rfl rfl (by decide)) ?_
    refine WpPi.consS rfl rfl rfl rfl (Exact.load_row (i := j) (f := 0) rfl rfl w.l rfl (by decide) (map_at hj) rfl) ?_
    refine WpPi.ps rfl trivial (WpPi.nil ?_)
    refine WpC.seqR ?_
    refine WpOps.ps rfl trivial ?_
    refine WpOps.consE rfl rfl (Exact.load rfl rfl w.box rfl rfl) ?_
    refine WpOps.ps rfl trivial ?_
    refine WpOps.consG rfl rfl (WpO.call rfl rfl rfl ((bdd_Var' w.ar (i := i) hi (by omega)).mono ?_ (fun _ _ h => h.elim)))
    rintro _ H1 ⟨r1, ds1, ga1, c1, es1, rfl, a1, x1, lt1, v1, len1, kept1⟩
    have l1 := x1.len
    dsimp only at v1
    have hN := sup x1 wf0 (by omega) hN
    have w := w.kept a1 x1 kept1
    have wf1 := w.ar.wf
    refine WpOps.ps rfl trivial (WpOps.nil ?_)
    refine WpC.seqR ?_
    refine WpOps.ps rfl trivial ?_
    refine WpOps.consE rfl rfl (Exact.load rfl rfl w.box rfl rfl) ?_
    refine WpOps.ps rfl trivial ?_
    refine WpOps.consG rfl rfl (WpO.call rfl rfl rfl ((bdd_Restrict' w.ar hv true (n := n) (i := i) (by omega) hi (by omega)).mono ?_ (fun _ _ h => h.elim)))
    rintro _ H2 ⟨r2, ds2, ga2, c2, es2, rfl, a2, x2, lt2, v2, len2, kept2⟩
    have l2 := x2.len
    dsimp only at v2
    simp only [hN] at v2
    have hN := sup x2 wf1 (by omega) hN
    have v1 := sup x2 wf1 (by omega) v1
    have w := w.kept a2 x2 kept2
    have wf2 := w.ar.wf
    refine WpOps.ps rfl trivial (WpOps.nil ?_)
    refine WpC.seqR ?_
    refine WpOps.ps rfl trivial ?_
    refine WpOps.consE rfl rfl (Exact.load rfl rfl w.box rfl rfl) ?_
    refine WpOps.ps rfl trivial ?_
    refine WpOps.consG rfl rfl (WpO.call rfl rfl rfl ((bdd_Restrict' w.ar hv false (n := n) (i := i) (by omega) hi (by omega)).mono ?_ (fun _ _ h => h.elim)))
    rintro _ H3 ⟨r3, ds3, ga3, c3, es3, rfl, a3, x3, lt3, v3, len3, kept3⟩
    have l3 := x3.len
    dsimp only at v3
    simp only [hN] at v3
    have hN := sup x3 wf2 (by omega) hN
    have v1 := sup x3 wf2 (by omega) v1
    have v2 := sup x3 wf2 (by omega) v2
    have w := w.kept a3 x3 kept3
    have wf3 := w.ar.wf
    refine WpOps.ps rfl trivial (WpOps.nil ?_)
    refine WpC.seqR ?_
    refine WpOps.ps rfl trivial ?_
    refine WpOps.consE rfl rfl (Exact.load rfl rfl w.box rfl rfl) ?_
    refine WpOps.ps rfl trivial ?_
    refine WpOps.consG rfl rfl (WpO.call rfl rfl rfl ((bdd_Ite w.ar hv (q := r1) (n := r2) (m := r3) (by omega) (by omega) (by omega) (by omega)).mono ?_ (fun _ _ h => h.elim)))
    rintro _ H4 ⟨r4, ds4, ga4, c4, es4, rfl, a4, x4, lt4, v4, len4, kept4⟩
    have l4 := x4.len
    dsimp only at v4
    simp only [v1, v2, v3] at v4
    have hN := sup x4 wf3 (by omega) hN
    have v1 := sup x4 wf3 (by omega) v1
    have v2 := sup x4 wf3 (by omega) v2
    have v3 := sup x4 wf3 (by omega) v3
    have w := w.kept a4 x4 kept4
    have wf4 := w.ar.wf
    refine WpOps.ps rfl trivial (WpOps.nil ?_)
    refine WpC.seqR ?_
    refine WpOps.ps rfl trivial ?_
    refine WpOps.consE rfl rfl (Exact.load rfl rfl w.box rfl rfl) ?_
    refine WpOps.ps rfl trivial ?_
    refine WpOps.consG rfl rfl (WpO.call rfl rfl rfl ((bdd_Only' w.ar hv (n := n) (by omega) (by omega)).mono ?_ (fun _ _ h => h.elim)))
    rintro _ _ ⟨⟨set, rfl, hset, hang⟩, rfl⟩
    refine WpOps.ps rfl trivial (WpOps.nil ?_)
    refine WpC.seqR ?_
    refine WpOps.ps rfl trivial ?_
    refine WpOps.consE rfl rfl (Exact.load rfl rfl w.box rfl rfl) ?_
    refine WpOps.ps rfl trivial ?_
    refine WpOps.consE rfl rfl (Exact.call rfl rfl rfl (bdd_Count' w.ar hv (n := r2) (by omega) (by omega))) ?_
    refine WpOps.ps rfl trivial (WpOps.nil ?_)
    refine WpC.seqR ?_
    refine WpOps.ps rfl trivial ?_
    refine WpOps.consE rfl rfl (Exact.load rfl rfl w.box rfl rfl) ?_
    refine WpOps.ps rfl trivial ?_
    refine WpOps.consE rfl rfl (Exact.call rfl rfl rfl (bdd_Count' w.ar hv (n := r3) (by omega) (by omega))) ?_
    refine WpOps.ps rfl trivial (WpOps.nil ?_)
    refine WpC.seqR ?_
    refine WpOps.ps rfl trivial ?_
    refine WpOps.consE rfl rfl (Exact.load rfl rfl w.box rfl rfl) ?_
    refine WpOps.ps rfl trivial ?_
    refine WpOps.consE rfl rfl (Exact.call rfl rfl rfl (bdd_Count' w.ar hv (n := n) (by omega) (by omega))) ?_
    refine WpOps.ps rfl trivial (WpOps.nil ?_)
    refine WpC.seqR ?_
    refine WpOps.ps rfl trivial ?_
    refine WpOps.consE rfl rfl (Exact.load rfl rfl w.box rfl rfl) ?_
    refine WpOps.ps rfl trivial ?_
    refine WpOps.consG rfl rfl (WpO.call rfl rfl rfl ((bdd_Restrict' w.ar hv false (n := r2) (i := i) (by omega) hi (by omega)).mono ?_ (fun _ _ h => h.elim)))
    rintro _ H5 ⟨r5, ds5, ga5, c5, es5, rfl, a5, x5, lt5, v5, len5, kept5⟩
    have l5 := x5.len
    dsimp only at v5
    simp only [v2] at v5
    have hN := sup x5 wf4 (by omega) hN
    have v1 := sup x5 wf4 (by omega) v1
    have v2 := sup x5 wf4 (by omega) v2
    have v3 := sup x5 wf4 (by omega) v3
    have v4 := sup x5 wf4 (by omega) v4
    have w := w.kept a5 x5 kept5
    have wf5 := w.ar.wf
    refine WpOps.ps rfl trivial (WpOps.nil ?_)
    obtain rfl : r4 = n := one_of_same wf5 (by omega) (by omega) (fun s => by
      rw [v4, hN]
      have e := upd_self s i
      cases hb : s i with
      | true => rw [hb] at e; simp only [if_true]; rw [e]
      | false => rw [hb] at e; simp only [Bool.false_eq_true, if_false]; rw [e])
    obtain rfl : r5 = r2 := one_of_same wf5 (by omega) (by omega) (fun s => by rw [v5, v2, upd_upd])
    have t2 : semT ds4 r5 = fun s => N (upd (asg s) i true) := by funext s; exact (x5.sem wf4 _ _ (by omega)).symm.trans (v2 (asg s))
    have t3 : semT ds4 r3 = fun s => N (upd (asg s) i false) := by funext s; exact (x5.sem wf4 _ _ (by omega)).symm.trans (v3 (asg s))
    have t4 : semT ds4 r4 = fun s => N (asg s) := by funext s; exact (x5.sem wf4 _ _ (by omega)).symm.trans (hN (asg s))
    have cs := count_sides hi N
    rw [← t2, ← t3, ← t4] at cs
    have c1 := countOf_le (2 ^ v) (semT ds4 r5)
    have c2 := countOf_le (2 ^ v) (semT ds4 r3)
    have c3 := countOf_le (2 ^ v) (semT ds4 r4)
    have hh : set.testBit i = !decide ((r5 : Int) = (r3 : Int)) := by
      have e1 : (r5 : Int) = (r3 : Int) ↔ ¬ Hangs ds4 r4 i := by
        constructor
        · intro e
          have e : r5 = r3 := by omega
          rintro ⟨s, hs⟩
          have q1 := fun s => (congrFun t4 s)
          apply hs
          have a1 : ∀ s, sem ds4 r4 s = N s := fun s => (x5.sem wf4 _ _ (by omega)).symm.trans (hN s)
          rw [a1, a1, ← v2 s, ← v3 s, e]
        · intro hn
          have : r5 = r3 := one_of_same wf5 (by omega) (by omega) (fun s => by
            rw [v2, v3]
            refine Classical.byContradiction fun hs => hn ⟨s, ?_⟩
            have a1 : ∀ s, sem ds4 r4 s = N s := fun s => (x5.sem wf4 _ _ (by omega)).symm.trans (hN s)
            rw [a1, a1]; exact hs)
          omega
      rw [Bool.eq_iff_iff, hang i]
      by_cases hx : (r5 : Int) = (r3 : Int)
      · simp [hx, e1.1 hx]
      · have : Hangs ds4 r4 i := Classical.byContradiction (fun h => hx (e1.2 h))
        simp [hx, this]
    refine WpC.seqR ?_
    refine WpOps.pn 5 rfl trivial ?_
    refine WpOps.at 155 (eq_self _) ?_
    refine WpOps.pn 5 rfl trivial ?_
    refine WpOps.at 160 (eq_self _) ?_
    refine WpOps.pn 8 rfl (by simp only [conj, inR]; omega) ?_
    refine WpOps.at 168 (v := .lit (.bool true)) (congrArg (fun b => AV.lit (.bool b)) (decide_eq_true (by omega))) ?_
    refine WpOps.pn 7 rfl (by simp only [conj]; omega) ?_
    refine WpOps.at 175 (congrArg (fun b => AV.lit (.bool b)) (bit1 (s := set) (i := i) (by omega) (by omega))) ?_
    refine WpOps.pn 4 rfl trivial ?_
    refine WpOps.at 179 (v := .lit (.bool true)) (congrArg (fun b => AV.lit (.bool b)) (by rw [hh]; simp)) ?_
    refine WpOps.pn 6 rfl trivial ?_
    refine WpOps.split 185 rfl ?_ ?_
    · intro h
      refine WpOps.ps rfl trivial (WpOps.nil ?_)
      refine WpC.ret ?_
      exact VEnds.ret1 rfl rfl rfl
    · intro h
      have h : r5 = r3 := by have : (r5 : Int) = (r3 : Int) := by simpa using h
                             omega
      have e : r5 = r4 := one_of_same wf5 (by omega) (by omega) (fun s => by
        have q := upd_self s i
        cases hb : s i with
        | true => rw [hb] at q; rw [v2, hN, q]
        | false => rw [hb] at q; rw [h, v3, hN, q])
      refine WpOps.pn 3 rfl trivial ?_
      refine WpOps.at 188 (v := .lit (.bool true)) (congrArg (fun b => AV.lit (.bool b)) (decide_eq_true (by rw [e]))) ?_
      refine WpOps.ps rfl trivial (WpOps.nil ?_)
      refine WpC.ret ?_
      exact VEnds.ret1 rfl rfl rfl

theorem sides_lifted (os : Os) (started : os.Started) (H : Type) (enc : TypeId × Value → H) :
    ReturnsInHanded {} Try.checked os 5 .any (Rows.bddSidesSpec.pre6 enc Try.prog Try.f5 Rows.bddSidesRow.domain false) (Rows.bddSidesSpec.post enc Try.prog Try.f5 false true false false) := by
  refine returnsInHanded_of_change (C := Try.checked) Try.own started (by kernel_rfl) Try.func5
    (ChangeSpec.witness6 (enc := enc) (C := Try.checked) false ⟨#[], #[.int .i64 0, .slice none 0 0, .int .i64 0, .int .i64 0], []⟩ 8 (by kernel_rfl) (by kernel_rfl) (by kernel_rfl) (by kernel_rfl)) ?_
  intro W base args ds gs before hval hW _ _
  refine law_post (P := Try.prog) (n := 8) ⟨rfl, fun H ds h => ?_⟩ Try.laidOut (by kernel_rfl) (by kernel_rfl) (show Try.f5.resultTypes = #[4] by kernel_rfl) Try.underlying4 hval hW fun xs hx => ?_
  · match ds, h with
    | [d0, d1, d2, d3], _ => rfl
  · rw [Try.params5] at hx
    obtain ⟨i, r, wi, rfl, h1⟩ := ArgsC.int Try.underlying3 hx
    obtain ⟨l, r, hl, hll, rfl, h2⟩ := args_ops h1
    obtain ⟨x, r, wx, rfl, h3⟩ := ArgsC.int Try.underlying3 h2
    obtain ⟨y, r, wy, rfl, h4⟩ := ArgsC.int Try.underlying3 h3
    cases h4
    exact sides_call wx hl hll _

theorem sides_holds : Rows.BddSidesSaid :=
  OpenClaim.holds_of_wide 5 Try.f5 rfl rfl rfl rfl rfl rfl rfl ⟨rfl, rfl, rfl, rfl, rfl⟩ rfl rfl rfl rfl rfl (by kernel_rfl) Try.func5 (by kernel_rfl)
    (of_decide_eq_true (by kernel_rfl)) (by unfold Func.isWrapper; first | (rw [if_pos (by decide +kernel)]; kernel_rfl) | (rw [if_neg (by decide +kernel)]; exact ⟨rfl, rfl⟩))
    (fun os started H enc _ => sides_lifted os started H enc)
end Go.Proofs.Ytkhgiieglpdejaa
