/-
  What is proved: the law BddThought answers true, for every input; condition: none beyond the statement's own.
-/
import Derived.Test.YtkhgiieglpdejaaLift
set_option linter.unusedVariables false
set_option linter.unusedSimpArgs false
namespace Go.Proofs.Ytkhgiieglpdejaa
open Go Go.ChangeShapes Go.WideShapes Go.ChangeAt Go.RowKit Go.Vc Go.Vc.Bdd
attribute [local irreducible] WpC WpOps WpPi WpO Exact TCall VEnds

set_option maxRecDepth 20000 in
theorem thought_call {v x y z : Int} {l : List Op6} (wx : inR .i64 x) (wy : inR .i64 y) (wz : inR .i64 z) (hl : ∀ o ∈ l, o.Ok) (hll : l.length ≤ 9223372036854775807) (H : Heap) : TCall Try.prog 4 [zI v, .rows 6 (l.map encO), zI x, zI y, zI z] H (fun x _ => x = .lit (.bool true)) noE := by
  refine TCall.body Try.func4 rfl rfl ?_
  refine WpC.seqR (WpOps.ps rfl trivial (WpOps.nil ?_))
  refine WpC.seqR ?_
  refine WpOps.consE rfl rfl (Exact.call rfl rfl rfl (law_awake _)) ?_
  refine WpOps.ps rfl trivial (WpOps.nil ?_)
  refine WpC.seqR ?_
  refine WpOps.ps rfl trivial ?_
  refine WpOps.consG rfl rfl (WpO.call rfl rfl rfl ((law_built hl hll _).mono ?_ (fun _ _ h => h.elim)))
  intro x H1 hx
  rcases hx with ⟨rfl, hvn⟩ | ⟨ds, ns, gw, g, ga, c, gm, es, gl, cl, gt, ct, hv0, hv8, rfl, w, hn2, hnk, hdk⟩
  · refine WpOps.ps rfl trivial (WpOps.nil ?_)
    refine WpC.seq ?_
    refine WpC.seqR (WpOps.ps rfl trivial (WpOps.nil ?_))
    refine WpC.condT rfl ?_
    refine WpC.seqR (WpOps.ps rfl trivial (WpOps.nil ?_))
    refine WpC.ret ?_
    refine VEnds.ret1 rfl rfl ?_
    exact rfl
  obtain ⟨v, rfl⟩ : ∃ k : Nat, v = k := ⟨v.toNat, by omega⟩
  rw [Int.toNat_natCast] at w
  have hv : v ≤ 8 := by omega
  have h8 := pow8 hv
  have hnk : ns.length ≤ 32 := hnk
  have hdk : ds.length ≤ 30722 := hdk
  have hns : 0 < ns.length := by omega
  obtain ⟨i, ei⟩ : ∃ i, pickOf x ns.length = i := ⟨_, rfl⟩
  obtain ⟨j, ej⟩ : ∃ i, pickOf y ns.length = i := ⟨_, rfl⟩
  obtain ⟨k, ek⟩ : ∃ i, pickOf z ns.length = i := ⟨_, rfl⟩
  have li : i < ns.length := ei ▸ pickOf_lt hns
  have lj : j < ns.length := ej ▸ pickOf_lt hns
  have lk : k < ns.length := ek ▸ pickOf_lt hns
  obtain ⟨n, hi⟩ : ∃ n, ns[i]? = some n := ⟨_, List.getElem?_eq_getElem li⟩
  obtain ⟨m, hj⟩ : ∃ n, ns[j]? = some n := ⟨_, List.getElem?_eq_getElem lj⟩
  obtain ⟨q, hk⟩ : ∃ n, ns[k]? = some n := ⟨_, List.getElem?_eq_getElem lk⟩
  have mn := w.lt n (List.mem_of_getElem? hi)
  have mm := w.lt m (List.mem_of_getElem? hj)
  have mq := w.lt q (List.mem_of_getElem? hk)
  obtain ⟨N, hN⟩ : ∃ N : Asg → Bool, ∀ s, sem ds n s = N s := ⟨_, fun _ => rfl⟩
  obtain ⟨M, hM⟩ : ∃ N : Asg → Bool, ∀ s, sem ds m s = N s := ⟨_, fun _ => rfl⟩
  obtain ⟨C, hC⟩ : ∃ N : Asg → Bool, ∀ s, sem ds q s = N s := ⟨_, fun _ => rfl⟩
  have wf0 := w.ar.wf
  refine WpOps.ps rfl trivial (WpOps.nil ?_)
  refine WpC.seq ?_
  refine WpC.seqR (WpOps.ps rfl trivial (WpOps.nil ?_))
  refine WpC.condF rfl ?_
  refine WpC.skip ?_
  refine WpC.seq ?_
  refine WpC.seqR (WpOps.ps rfl trivial (WpOps.nil ?_))
  refine WpC.condF rfl ?_
  refine WpC.skip ?_
  refine WpC.seqD [.I, .I, .I, .S, .I, .I, .I, .I, .S, .I, .S, .I, .S] [0, 1, 2, 3, 4, 5, 6, 7, 8, 9, 10, 11, 12, 13] (by kernel_rfl) (by kernel_rfl) ?_
  refine WpPi.ps rfl trivial ?_
  refine WpPi.consS rfl rfl rfl rfl (Exact.load rfl rfl w.box rfl rfl) ?_
  refine WpPi.ps rfl trivial ?_
  refine WpPi.consS rfl rfl rfl rfl (Exact.load rfl rfl w.box rfl rfl) ?_
  refine WpPi.ps rfl trivial ?_
  refine WpPi.consS rfl rfl rfl rfl (Exact.call rfl rfl rfl (law_pick wx hns _)) ?_
  refine WpPi.at 65 (congrArg (fun z : Nat => iA z) ei) ?_
  refine WpPi.consI rfl rfl rfl rfl (fun _ => Exact.indexAddr_buf (size := 1) rfl rfl rfl li rfl rfl (by decide)) ?_
  refine WpPi.consS rfl rfl rfl rfl (Exact.load_row (i := i) (f := 0) rfl rfl w.l rfl (by decide) (map_at hi) rfl) ?_
  refine WpPi.ps rfl trivial (WpPi.nil ?_)
  refine WpC.seqD [.I, .I, .I, .S, .I, .I, .I, .I, .S, .I, .S, .I, .S] [0, 1, 2, 3, 4, 5, 6, 7, 8, 9, 10, 11, 12, 13] (by kernel_rfl) (by kernel_rfl) ?_
  refine WpPi.ps rfl trivial ?_
  refine WpPi.consS rfl rfl rfl rfl (Exact.load rfl rfl w.box rfl rfl) ?_
  refine WpPi.ps rfl trivial ?_
  refine WpPi.consS rfl rfl rfl rfl (Exact.load rfl rfl w.box rfl rfl) ?_
  refine WpPi.ps rfl trivial ?_
  refine WpPi.consS rfl rfl rfl rfl (Exact.call rfl rfl rfl (law_pick wy hns _)) ?_
  refine WpPi.at 78 (congrArg (fun z : Nat => iA z) ej) ?_
  refine WpPi.consI rfl rfl rfl rfl (fun _ => Exact.indexAddr_buf (size := 1) rfl rfl rfl lj rfl rfl (by decide)) ?_
  refine WpPi.consS rfl rfl rfl rfl (Exact.load_row (i := j) (f := 0) rfl rfl w.l rfl (by decide) (map_at hj) rfl) ?_
  refine WpPi.ps rfl trivial (WpPi.nil ?_)
  refine WpC.seqD [.I, .I, .I, .S, .I, .I, .I, .I, .S, .I, .S, .I, .S] [0, 1, 2, 3, 4, 5, 6, 7, 8, 9, 10, 11, 12, 13] (by kernel_rfl) (by kernel_rfl) ?_
  refine WpPi.ps rfl trivial ?_
  refine WpPi.consS rfl rfl rfl rfl (Exact.load rfl rfl w.box rfl rfl) ?_
  refine WpPi.ps rfl trivial ?_
  refine WpPi.consS rfl rfl rfl rfl (Exact.load rfl rfl w.box rfl rfl) ?_
  refine WpPi.ps rfl trivial ?_
  refine WpPi.consS rfl rfl rfl rfl (Exact.call rfl rfl rfl (law_pick wz hns _)) ?_
  refine WpPi.at 91 (congrArg (fun z : Nat => iA z) ek) ?_
  refine WpPi.consI rfl rfl rfl rfl (fun _ => Exact.indexAddr_buf (size := 1) rfl rfl rfl lk rfl rfl (by decide)) ?_
  refine WpPi.consS rfl rfl rfl rfl (Exact.load_row (i := k) (f := 0) rfl rfl w.l rfl (by decide) (map_at hk) rfl) ?_
  refine WpPi.ps rfl trivial (WpPi.nil ?_)
  refine WpC.seqR ?_
  refine WpOps.ps rfl trivial ?_
  refine WpOps.consE rfl rfl (Exact.load rfl rfl w.box rfl rfl) ?_
  refine WpOps.ps rfl trivial ?_
  refine WpOps.consG rfl rfl (WpO.call rfl rfl rfl ((bdd_Not w.ar hv (n := n) (by omega) (by omega)).mono ?_ (fun _ _ h => h.elim)))
  rintro _ H1 ⟨r1, ds1, ga1, c1, es1, rfl, a1, x1, lt1, v1, len1, kept1⟩
  have l1 := x1.len
  dsimp only at v1
  simp only [hN] at v1
  have hN := sup x1 wf0 (by omega) hN
  have hM := sup x1 wf0 (by omega) hM
  have hC := sup x1 wf0 (by omega) hC
  have w := w.kept a1 x1 kept1
  have wf1 := w.ar.wf
  refine WpOps.ps rfl trivial (WpOps.nil ?_)
  refine WpC.seqR ?_
  refine WpOps.ps rfl trivial ?_
  refine WpOps.consE rfl rfl (Exact.load rfl rfl w.box rfl rfl) ?_
  refine WpOps.ps rfl trivial ?_
  refine WpOps.consG rfl rfl (WpO.call rfl rfl rfl ((bdd_Not w.ar hv (n := r1) (by omega) (by omega)).mono ?_ (fun _ _ h => h.elim)))
  rintro _ H2 ⟨r2, ds2, ga2, c2, es2, rfl, a2, x2, lt2, v2, len2, kept2⟩
  have l2 := x2.len
  dsimp only at v2
  simp only [v1] at v2
  have hN := sup x2 wf1 (by omega) hN
  have hM := sup x2 wf1 (by omega) hM
  have hC := sup x2 wf1 (by omega) hC
  have v1 := sup x2 wf1 (by omega) v1
  have w := w.kept a2 x2 kept2
  have wf2 := w.ar.wf
  refine WpOps.ps rfl trivial (WpOps.nil ?_)
  refine WpC.seqR ?_
  refine WpOps.ps rfl trivial ?_
  refine WpOps.consE rfl rfl (Exact.load rfl rfl w.box rfl rfl) ?_
  refine WpOps.ps rfl trivial ?_
  refine WpOps.consG rfl rfl (WpO.call rfl rfl rfl ((bdd_Not w.ar hv (n := m) (by omega) (by omega)).mono ?_ (fun _ _ h => h.elim)))
  rintro _ H3 ⟨r3, ds3, ga3, c3, es3, rfl, a3, x3, lt3, v3, len3, kept3⟩
  have l3 := x3.len
  dsimp only at v3
  simp only [hM] at v3
  have hN := sup x3 wf2 (by omega) hN
  have hM := sup x3 wf2 (by omega) hM
  have hC := sup x3 wf2 (by omega) hC
  have v1 := sup x3 wf2 (by omega) v1
  have v2 := sup x3 wf2 (by omega) v2
  have w := w.kept a3 x3 kept3
  have wf3 := w.ar.wf
  refine WpOps.ps rfl trivial (WpOps.nil ?_)
  refine WpC.seqR ?_
  refine WpOps.ps rfl trivial ?_
  refine WpOps.consE rfl rfl (Exact.load rfl rfl w.box rfl rfl) ?_
  refine WpOps.ps rfl trivial ?_
  refine WpOps.consG rfl rfl (WpO.call rfl rfl rfl ((bdd_And w.ar hv (n := n) (m := m) (by omega) (by omega) (by omega)).mono ?_ (fun _ _ h => h.elim)))
  rintro _ H4 ⟨r4, ds4, ga4, c4, es4, rfl, a4, x4, lt4, v4, len4, kept4⟩
  have l4 := x4.len
  dsimp only at v4
  simp only [hN, hM] at v4
  have hN := sup x4 wf3 (by omega) hN
  have hM := sup x4 wf3 (by omega) hM
  have hC := sup x4 wf3 (by omega) hC
  have v1 := sup x4 wf3 (by omega) v1
  have v2 := sup x4 wf3 (by omega) v2
  have v3 := sup x4 wf3 (by omega) v3
  have w := w.kept a4 x4 kept4
  have wf4 := w.ar.wf
  refine WpOps.ps rfl trivial (WpOps.nil ?_)
  refine WpC.seqR ?_
  refine WpOps.ps rfl trivial ?_
  refine WpOps.consE rfl rfl (Exact.load rfl rfl w.box rfl rfl) ?_
  refine WpOps.ps rfl trivial ?_
  refine WpOps.consG rfl rfl (WpO.call rfl rfl rfl ((bdd_Or w.ar hv (n := r1) (m := r3) (by omega) (by omega) (by omega)).mono ?_ (fun _ _ h => h.elim)))
  rintro _ H5 ⟨r5, ds5, ga5, c5, es5, rfl, a5, x5, lt5, v5, len5, kept5⟩
  have l5 := x5.len
  dsimp only at v5
  simp only [v1, v3] at v5
  have hN := sup x5 wf4 (by omega) hN
  have hM := sup x5 wf4 (by omega) hM
  have hC := sup x5 wf4 (by omega) hC
  have v1 := sup x5 wf4 (by omega) v1
  have v2 := sup x5 wf4 (by omega) v2
  have v3 := sup x5 wf4 (by omega) v3
  have v4 := sup x5 wf4 (by omega) v4
  have w := w.kept a5 x5 kept5
  have wf5 := w.ar.wf
  refine WpOps.ps rfl trivial (WpOps.nil ?_)
  refine WpC.seqR ?_
  refine WpOps.ps rfl trivial ?_
  refine WpOps.consE rfl rfl (Exact.load rfl rfl w.box rfl rfl) ?_
  refine WpOps.ps rfl trivial ?_
  refine WpOps.consG rfl rfl (WpO.call rfl rfl rfl ((bdd_Not w.ar hv (n := r5) (by omega) (by omega)).mono ?_ (fun _ _ h => h.elim)))
  rintro _ H6 ⟨r6, ds6, ga6, c6, es6, rfl, a6, x6, lt6, v6, len6, kept6⟩
  have l6 := x6.len
  dsimp only at v6
  simp only [v5] at v6
  have hN := sup x6 wf5 (by omega) hN
  have hM := sup x6 wf5 (by omega) hM
  have hC := sup x6 wf5 (by omega) hC
  have v1 := sup x6 wf5 (by omega) v1
  have v2 := sup x6 wf5 (by omega) v2
  have v3 := sup x6 wf5 (by omega) v3
  have v4 := sup x6 wf5 (by omega) v4
  have v5 := sup x6 wf5 (by omega) v5
  have w := w.kept a6 x6 kept6
  have wf6 := w.ar.wf
  refine WpOps.ps rfl trivial (WpOps.nil ?_)
  refine WpC.seqR ?_
  refine WpOps.ps rfl trivial ?_
  refine WpOps.consE rfl rfl (Exact.load rfl rfl w.box rfl rfl) ?_
  refine WpOps.ps rfl trivial ?_
  refine WpOps.consG rfl rfl (WpO.call rfl rfl rfl ((bdd_Ite w.ar hv (q := q) (n := n) (m := m) (by omega) (by omega) (by omega) (by omega)).mono ?_ (fun _ _ h => h.elim)))
  rintro _ H7 ⟨r7, ds7, ga7, c7, es7, rfl, a7, x7, lt7, v7, len7, kept7⟩
  have l7 := x7.len
  dsimp only at v7
  simp only [hC, hN, hM] at v7
  have hN := sup x7 wf6 (by omega) hN
  have hM := sup x7 wf6 (by omega) hM
  have hC := sup x7 wf6 (by omega) hC
  have v1 := sup x7 wf6 (by omega) v1
  have v2 := sup x7 wf6 (by omega) v2
  have v3 := sup x7 wf6 (by omega) v3
  have v4 := sup x7 wf6 (by omega) v4
  have v5 := sup x7 wf6 (by omega) v5
  have v6 := sup x7 wf6 (by omega) v6
  have w := w.kept a7 x7 kept7
  have wf7 := w.ar.wf
  refine WpOps.ps rfl trivial (WpOps.nil ?_)
  refine WpC.seqR ?_
  refine WpOps.ps rfl trivial ?_
  refine WpOps.consE rfl rfl (Exact.load rfl rfl w.box rfl rfl) ?_
  refine WpOps.ps rfl trivial ?_
  refine WpOps.consG rfl rfl (WpO.call rfl rfl rfl ((bdd_And w.ar hv (n := q) (m := n) (by omega) (by omega) (by omega)).mono ?_ (fun _ _ h => h.elim)))
  rintro _ H8 ⟨r8, ds8, ga8, c8, es8, rfl, a8, x8, lt8, v8, len8, kept8⟩
  have l8 := x8.len
  dsimp only at v8
  simp only [hC, hN] at v8
  have hN := sup x8 wf7 (by omega) hN
  have hM := sup x8 wf7 (by omega) hM
  have hC := sup x8 wf7 (by omega) hC
  have v1 := sup x8 wf7 (by omega) v1
  have v2 := sup x8 wf7 (by omega) v2
  have v3 := sup x8 wf7 (by omega) v3
  have v4 := sup x8 wf7 (by omega) v4
  have v5 := sup x8 wf7 (by omega) v5
  have v6 := sup x8 wf7 (by omega) v6
  have v7 := sup x8 wf7 (by omega) v7
  have w := w.kept a8 x8 kept8
  have wf8 := w.ar.wf
  refine WpOps.ps rfl trivial (WpOps.nil ?_)
  refine WpC.seqR ?_
  refine WpOps.ps rfl trivial ?_
  refine WpOps.consE rfl rfl (Exact.load rfl rfl w.box rfl rfl) ?_
  refine WpOps.ps rfl trivial ?_
  refine WpOps.consG rfl rfl (WpO.call rfl rfl rfl ((bdd_Not w.ar hv (n := q) (by omega) (by omega)).mono ?_ (fun _ _ h => h.elim)))
  rintro _ H9 ⟨r9, ds9, ga9, c9, es9, rfl, a9, x9, lt9, v9, len9, kept9⟩
  have l9 := x9.len
  dsimp only at v9
  simp only [hC] at v9
  have hN := sup x9 wf8 (by omega) hN
  have hM := sup x9 wf8 (by omega) hM
  have hC := sup x9 wf8 (by omega) hC
  have v1 := sup x9 wf8 (by omega) v1
  have v2 := sup x9 wf8 (by omega) v2
  have v3 := sup x9 wf8 (by omega) v3
  have v4 := sup x9 wf8 (by omega) v4
  have v5 := sup x9 wf8 (by omega) v5
  have v6 := sup x9 wf8 (by omega) v6
  have v7 := sup x9 wf8 (by omega) v7
  have v8 := sup x9 wf8 (by omega) v8
  have w := w.kept a9 x9 kept9
  have wf9 := w.ar.wf
  refine WpOps.ps rfl trivial (WpOps.nil ?_)
  refine WpC.seqR ?_
  refine WpOps.ps rfl trivial ?_
  refine WpOps.consE rfl rfl (Exact.load rfl rfl w.box rfl rfl) ?_
  refine WpOps.ps rfl trivial ?_
  refine WpOps.consG rfl rfl (WpO.call rfl rfl rfl ((bdd_And w.ar hv (n := r9) (m := m) (by omega) (by omega) (by omega)).mono ?_ (fun _ _ h => h.elim)))
  rintro _ H10 ⟨r10, ds10, ga10, c10, es10, rfl, a10, x10, lt10, v10, len10, kept10⟩
  have l10 := x10.len
  dsimp only at v10
  simp only [v9, hM] at v10
  have hN := sup x10 wf9 (by omega) hN
  have hM := sup x10 wf9 (by omega) hM
  have hC := sup x10 wf9 (by omega) hC
  have v1 := sup x10 wf9 (by omega) v1
  have v2 := sup x10 wf9 (by omega) v2
  have v3 := sup x10 wf9 (by omega) v3
  have v4 := sup x10 wf9 (by omega) v4
  have v5 := sup x10 wf9 (by omega) v5
  have v6 := sup x10 wf9 (by omega) v6
  have v7 := sup x10 wf9 (by omega) v7
  have v8 := sup x10 wf9 (by omega) v8
  have v9 := sup x10 wf9 (by omega) v9
  have w := w.kept a10 x10 kept10
  have wf10 := w.ar.wf
  refine WpOps.ps rfl trivial (WpOps.nil ?_)
  refine WpC.seqR ?_
  refine WpOps.ps rfl trivial ?_
  refine WpOps.consE rfl rfl (Exact.load rfl rfl w.box rfl rfl) ?_
  refine WpOps.ps rfl trivial ?_
  refine WpOps.consG rfl rfl (WpO.call rfl rfl rfl ((bdd_Or w.ar hv (n := r8) (m := r10) (by omega) (by omega) (by omega)).mono ?_ (fun _ _ h => h.elim)))
  rintro _ H11 ⟨r11, ds11, ga11, c11, es11, rfl, a11, x11, lt11, v11, len11, kept11⟩
  have l11 := x11.len
  dsimp only at v11
  simp only [v8, v10] at v11
  have hN := sup x11 wf10 (by omega) hN
  have hM := sup x11 wf10 (by omega) hM
  have hC := sup x11 wf10 (by omega) hC
  have v1 := sup x11 wf10 (by omega) v1
  have v2 := sup x11 wf10 (by omega) v2
  have v3 := sup x11 wf10 (by omega) v3
  have v4 := sup x11 wf10 (by omega) v4
  have v5 := sup x11 wf10 (by omega) v5
  have v6 := sup x11 wf10 (by omega) v6
  have v7 := sup x11 wf10 (by omega) v7
  have v8 := sup x11 wf10 (by omega) v8
  have v9 := sup x11 wf10 (by omega) v9
  have v10 := sup x11 wf10 (by omega) v10
  have w := w.kept a11 x11 kept11
  have wf11 := w.ar.wf
  refine WpOps.ps rfl trivial (WpOps.nil ?_)
  refine WpC.seqR ?_
  refine WpOps.ps rfl trivial ?_
  refine WpOps.consE rfl rfl (Exact.load rfl rfl w.box rfl rfl) ?_
  refine WpOps.ps rfl trivial ?_
  refine WpOps.consG rfl rfl (WpO.call rfl rfl rfl ((bdd_Xor w.ar hv (n := n) (m := m) (by omega) (by omega) (by omega)).mono ?_ (fun _ _ h => h.elim)))
  rintro _ H12 ⟨r12, ds12, ga12, c12, es12, rfl, a12, x12, lt12, v12, len12, kept12⟩
  have l12 := x12.len
  dsimp only at v12
  simp only [hN, hM] at v12
  have hN := sup x12 wf11 (by omega) hN
  have hM := sup x12 wf11 (by omega) hM
  have hC := sup x12 wf11 (by omega) hC
  have v1 := sup x12 wf11 (by omega) v1
  have v2 := sup x12 wf11 (by omega) v2
  have v3 := sup x12 wf11 (by omega) v3
  have v4 := sup x12 wf11 (by omega) v4
  have v5 := sup x12 wf11 (by omega) v5
  have v6 := sup x12 wf11 (by omega) v6
  have v7 := sup x12 wf11 (by omega) v7
  have v8 := sup x12 wf11 (by omega) v8
  have v9 := sup x12 wf11 (by omega) v9
  have v10 := sup x12 wf11 (by omega) v10
  have v11 := sup x12 wf11 (by omega) v11
  have w := w.kept a12 x12 kept12
  have wf12 := w.ar.wf
  refine WpOps.ps rfl trivial (WpOps.nil ?_)
  refine WpC.seqR ?_
  refine WpOps.ps rfl trivial ?_
  refine WpOps.consE rfl rfl (Exact.load rfl rfl w.box rfl rfl) ?_
  refine WpOps.ps rfl trivial ?_
  refine WpOps.consG rfl rfl (WpO.call rfl rfl rfl ((bdd_Xor w.ar hv (n := r12) (m := m) (by omega) (by omega) (by omega)).mono ?_ (fun _ _ h => h.elim)))
  rintro _ H13 ⟨r13, ds13, ga13, c13, es13, rfl, a13, x13, lt13, v13, len13, kept13⟩
  have l13 := x13.len
  dsimp only at v13
  simp only [v12, hM] at v13
  have hN := sup x13 wf12 (by omega) hN
  have hM := sup x13 wf12 (by omega) hM
  have hC := sup x13 wf12 (by omega) hC
  have v1 := sup x13 wf12 (by omega) v1
  have v2 := sup x13 wf12 (by omega) v2
  have v3 := sup x13 wf12 (by omega) v3
  have v4 := sup x13 wf12 (by omega) v4
  have v5 := sup x13 wf12 (by omega) v5
  have v6 := sup x13 wf12 (by omega) v6
  have v7 := sup x13 wf12 (by omega) v7
  have v8 := sup x13 wf12 (by omega) v8
  have v9 := sup x13 wf12 (by omega) v9
  have v10 := sup x13 wf12 (by omega) v10
  have v11 := sup x13 wf12 (by omega) v11
  have v12 := sup x13 wf12 (by omega) v12
  have w := w.kept a13 x13 kept13
  have wf13 := w.ar.wf
  refine WpOps.ps rfl trivial (WpOps.nil ?_)
  obtain rfl : r2 = n := one_of_same wf13 (by omega) (by omega) (fun s => by rw [v2, hN]; cases N s <;> rfl)
  obtain rfl : r6 = r4 := one_of_same wf13 (by omega) (by omega) (fun s => by rw [v6, v4]; cases N s <;> cases M s <;> rfl)
  obtain rfl : r11 = r7 := one_of_same wf13 (by omega) (by omega) (fun s => by rw [v11, v7]; cases C s <;> cases N s <;> cases M s <;> rfl)
  obtain rfl : r13 = r2 := one_of_same wf13 (by omega) (by omega) (fun s => by rw [v13, v2]; cases N s <;> cases M s <;> rfl)
  refine WpC.seqR ?_
  refine WpOps.pn 5 rfl trivial ?_
  refine WpOps.at 224 (eq_self _) ?_
  refine WpOps.pn 5 rfl trivial ?_
  refine WpOps.at 229 (eq_self _) ?_
  refine WpOps.pn 5 rfl trivial ?_
  refine WpOps.at 234 (eq_self _) ?_
  refine WpOps.pn 5 rfl trivial ?_
  refine WpOps.at 239 (eq_self _) ?_
  refine WpOps.ps rfl trivial (WpOps.nil ?_)
  refine WpC.ret ?_
  refine VEnds.ret1 rfl rfl ?_
  exact rfl

theorem thought_lifted (os : Os) (started : os.Started) (H : Type) (enc : TypeId × Value → H) :
    ReturnsInHanded {} Try.checked os 4 .any (Rows.bddThoughtSpec.pre6 enc Try.prog Try.f4 Rows.bddThoughtRow.domain false) (Rows.bddThoughtSpec.post enc Try.prog Try.f4 false true false false) := by
  refine returnsInHanded_of_change (C := Try.checked) Try.own started (by kernel_rfl) Try.func4
    (ChangeSpec.witness6 (enc := enc) (C := Try.checked) false ⟨#[], #[.int .i64 0, .slice none 0 0, .int .i64 0, .int .i64 0, .int .i64 0], []⟩ 8 (by kernel_rfl) (by kernel_rfl) (by kernel_rfl) (by kernel_rfl)) ?_
  intro W base args ds gs before hval hW _ _
  refine law_post (P := Try.prog) (n := 8) ⟨rfl, fun H ds h => ?_⟩ Try.laidOut (by kernel_rfl) (by kernel_rfl) (show Try.f4.resultTypes = #[4] by kernel_rfl) Try.underlying4 hval hW fun xs hx => ?_
  · match ds, h with
    | [d0, d1, d2, d3, d4], _ => rfl
  · rw [Try.params4] at hx
    obtain ⟨i, r, wi, rfl, h1⟩ := ArgsC.int Try.underlying3 hx
    obtain ⟨l, r, hl, hll, rfl, h2⟩ := args_ops h1
    obtain ⟨x, r, wx, rfl, h3⟩ := ArgsC.int Try.underlying3 h2
    obtain ⟨y, r, wy, rfl, h4⟩ := ArgsC.int Try.underlying3 h3
    obtain ⟨z, r, wz, rfl, h5⟩ := ArgsC.int Try.underlying3 h4
    cases h5
    exact thought_call wx wy wz hl hll _

theorem thought_holds : Rows.BddThoughtSaid :=
  OpenClaim.holds_of_wide 4 Try.f4 rfl rfl rfl rfl rfl rfl rfl ⟨rfl, rfl, rfl, rfl, rfl⟩ rfl rfl rfl rfl rfl (by kernel_rfl) Try.func4 (by kernel_rfl)
    (of_decide_eq_true (by kernel_rfl)) (by unfold Func.isWrapper; first | (rw [if_pos (by decide +kernel)]; kernel_rfl) | (rw [if_neg (by decide +kernel)]; exact ⟨rfl, rfl⟩))
    (fun os started H enc _ => thought_lifted os started H enc)
end Go.Proofs.Ytkhgiieglpdejaa
