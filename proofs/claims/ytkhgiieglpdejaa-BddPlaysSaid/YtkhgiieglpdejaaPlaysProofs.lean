/-
  What is proved: the law BddPlays answers true, for every input; condition: none beyond the statement's own.
-/
import Derived.Test.YtkhgiieglpdejaaLift
set_option linter.unusedVariables false
set_option linter.unusedSimpArgs false
namespace Go.Proofs.Ytkhgiieglpdejaa
open Go Go.ChangeShapes Go.WideShapes Go.ChangeAt Go.RowKit Go.Vc Go.Vc.Bdd
attribute [local irreducible] WpC WpOps WpPi WpO Exact TCall VEnds

set_option maxRecDepth 20000 in
theorem plays_call {v : Int} {l : List Op6} (hl : ∀ o ∈ l, o.Ok) (hll : l.length ≤ 9223372036854775807) (H : Heap) : TCall Try.prog 7 [zI v, .rows 6 (l.map encO)] H (fun x _ => x = .lit (.bool true)) noE := by
  refine TCall.body Try.func7 rfl rfl ?_
  refine WpC.seqR (WpOps.ps rfl trivial (WpOps.nil ?_))
  refine WpC.seqR ?_
  refine WpOps.consE rfl rfl (Exact.call rfl rfl rfl (law_awake _)) ?_
  refine WpOps.ps rfl trivial (WpOps.nil ?_)
  refine WpC.seqR ?_
  refine WpOps.ps rfl trivial ?_
  refine WpOps.consG rfl rfl (WpO.call rfl rfl rfl ((law_built hl hll _).mono ?_ (fun _ _ h => h.elim)))
  intro x H1 hx
  rcases hx with ⟨rfl, hvn⟩ | ⟨ds, ns, gw, g, ga, c, gm, es, gl, cl, gt, ct, hv0, hv8, rfl, w, hn2, hnk, hdk⟩
  · refine WpOps.ps rfl trivial (WpOps.nil ?_)
    refine WpC.seq ?_
    refine WpC.seqR (WpOps.ps rfl trivial (WpOps.nil ?_))
    refine WpC.condT rfl ?_
    refine WpC.seqR ?_
    refine WpOps.pn 5 rfl trivial ?_
    refine WpOps.split 27 rfl ?_ ?_
    · intro h
      refine WpOps.ps rfl trivial (WpOps.nil ?_)
      refine WpC.ret ?_
      exact VEnds.ret1 rfl rfl rfl
    · intro h
      have h : ¬ v < 0 := by simpa using h
      refine WpOps.ps rfl trivial (WpOps.nil ?_)
      refine WpC.ret ?_
      refine VEnds.ret1 rfl rfl ?_
      exact congrArg (fun b => AV.lit (.bool b)) (decide_eq_true (by show 8 < v; omega))
  obtain ⟨v, rfl⟩ : ∃ k : Nat, v = k := ⟨v.toNat, by omega⟩
  rw [Int.toNat_natCast] at w
  have hv : v ≤ 8 := by omega
  have h8 := pow8 hv
  have hnk : ns.length ≤ 32 := hnk
  have hdk : ds.length ≤ 30722 := hdk
  refine WpOps.ps rfl trivial (WpOps.nil ?_)
  refine WpC.seq ?_
  refine WpC.seqR (WpOps.ps rfl trivial (WpOps.nil ?_))
  refine WpC.condF rfl ?_
  refine WpC.skip ?_
  refine WpC.seq ?_
  refine WpC.seqR (WpOps.ps rfl trivial (WpOps.nil ?_))
  refine WpC.condF rfl ?_
  refine WpC.skip ?_
  refine WpC.seq ?_
  refine WpC.seqR (WpOps.ps rfl trivial (WpOps.nil ?_))
  refine WpC.block ?_
  refine WpC.loopK (fun x : Nat => [(8, iA x), (6, pA gw), (5, .lit (.bool true)), (0, iA v)]) (fun x H' => x ≤ ns.length ∧ H' = H1) (fun x => ns.length - x) 0 ⟨rfl, rfl, rfl, rfl, trivial⟩ ⟨Nat.zero_le _, rfl⟩ ?_
  rintro k env H' ⟨hkn, rfl⟩
  refine WpC.seq ?_
  refine WpC.seqR ?_
  refine WpOps.ps rfl trivial ?_
  refine WpOps.consE rfl rfl (Exact.load rfl rfl w.box rfl rfl) ?_
  refine WpOps.ps rfl trivial (WpOps.nil ?_)
  refine WpC.condP rfl ?_ ?_
  · intro hc
    have lk : k < ns.length := Int.ofNat_lt.1 hc
    obtain ⟨n, hk⟩ : ∃ n, ns[k]? = some n := ⟨_, List.getElem?_eq_getElem lk⟩
    have hn := w.lt n (List.mem_of_getElem? hk)
    refine WpC.skip ?_
    refine WpC.seq ?_
    refine WpC.block ?_
    refine WpC.seq ?_
    refine WpC.seqR (WpOps.ps rfl trivial (WpOps.nil ?_))
    refine WpC.block ?_
    refine WpC.loopK (fun x : Nat => [(9, iA x), (0, iA v), (6, pA gw), (8, iA k), (5, .lit (.bool true))]) (fun x H2 => x ≤ 2 ^ v ∧ H2 = H') (fun x => 2 ^ v - x) 0 ⟨rfl, rfl, rfl, rfl, rfl, trivial⟩ ⟨Nat.zero_le _, rfl⟩ ?_
    rintro s env H2 ⟨hs, rfl⟩
    refine WpC.seq ?_
    refine WpC.seqR (WpOps.ps rfl (by simp only [conj, inR]; omega) (WpOps.nil ?_))
    refine WpC.condP rfl ?_ ?_
    · intro hc
      rw [shl1 hv] at hc
      have ls : s < 2 ^ v := Int.ofNat_lt.1 hc
      have hsr : (List.range (2 ^ v))[s]? = some s := List.getElem?_range ls
      refine WpC.skip ?_
      refine WpC.seq ?_
      refine WpC.block ?_
      refine WpC.seqD [.I, .I, .I, .S, .I, .I, .I, .S, .I, .I, .S, .I, .S] [0, 1, 2, 3, 4, 5, 6, 7, 8, 9, 10, 11, 12, 13, 14, 15, 16, 17] (by kernel_rfl) (by kernel_rfl) ?_
      refine WpPi.ps rfl trivial ?_
      refine WpPi.consS rfl rfl rfl rfl (Exact.load rfl rfl w.box rfl rfl) ?_
      refine WpPi.ps rfl trivial ?_
      refine WpPi.consS rfl rfl rfl rfl (Exact.load rfl rfl w.box rfl rfl) ?_
      refine WpPi.ps rfl trivial ?_
      refine WpPi.consI rfl rfl rfl rfl (fun _ => Exact.indexAddr_buf (size := 1) rfl rfl rfl lk rfl rfl (by decide)) ?_
      refine WpPi.consS rfl rfl rfl rfl (Exact.load_row (i := k) (f := 0) rfl rfl w.l rfl (by decide) (map_at hk) rfl) ?_
      refine WpPi.ps rfl trivial ?_
      refine WpPi.consS rfl rfl rfl rfl (Exact.call rfl rfl rfl (bdd_Holds' w.ar hv (n := n) (set := s) hn ls (by omega))) ?_
      refine WpPi.ps rfl trivial (WpPi.nil ?_)
      refine WpC.seqR ?_
      refine WpOps.ps rfl trivial ?_
      refine WpOps.consE rfl rfl (Exact.load rfl rfl w.box rfl rfl) ?_
      refine WpOps.ps rfl trivial ?_
      refine WpOps.consE rfl rfl (Exact.indexAddr_buf (size := 1) rfl rfl rfl lk rfl rfl (by decide)) ?_
      refine WpOps.consE rfl rfl (Exact.load_row (i := k) (f := 0) rfl rfl w.t rfl (by decide) (map_at hk) rfl) ?_
      refine WpOps.ps rfl trivial ?_
      refine WpOps.consE rfl rfl (Exact.indexAddr_rows rfl rfl rfl (map_at hsr) rfl rfl (by decide)) ?_
      refine WpOps.consE rfl rfl (Exact.load_rop rfl rfl rfl) ?_
      refine WpOps.pn 1 rfl trivial ?_
      refine WpOps.at 79 (bneq_self (semT ds n s)) ?_
      refine WpOps.ps rfl trivial (WpOps.nil ?_)
      refine WpC.condF rfl ?_
      refine WpC.skip ?_
      refine WpC.region (WpOps.ps rfl (by simp only [conj, inR]; omega) (WpOps.nil ?_))
      exact ⟨s + 1, meas ls, ⟨rfl, rfl, rfl, rfl, rfl, trivial⟩, ls, rfl⟩
    · intro hc
      refine WpC.exit ?_
      refine WpC.seqR (WpOps.ps rfl trivial (WpOps.nil ?_))
      refine WpC.block ?_
      refine WpC.loopK (fun x : Nat => [(12, iA x), (8, iA k), (6, pA gw), (5, .lit (.bool true)), (0, iA v)]) (fun x H3 => x ≤ k ∧ H3 = H2) (fun x => k - x) 0 ⟨rfl, rfl, rfl, rfl, rfl, trivial⟩ ⟨Nat.zero_le _, rfl⟩ ?_
      rintro j env H3 ⟨hjk, rfl⟩
      refine WpC.seq ?_
      refine WpC.seqR (WpOps.ps rfl trivial (WpOps.nil ?_))
      refine WpC.condP rfl ?_ ?_
      · intro hc
        have ljk : j < k := Int.ofNat_lt.1 hc
        have lj : j < ns.length := Nat.lt_trans ljk lk
        obtain ⟨m, hj⟩ : ∃ n, ns[j]? = some n := ⟨_, List.getElem?_eq_getElem lj⟩
        have hm := w.lt m (List.mem_of_getElem? hj)
        refine WpC.skip ?_
        refine WpC.seq ?_
        refine WpC.block ?_
        refine WpC.seqD [.I, .I, .I, .S, .I, .I, .S, .I, .I, .I, .S, .I, .I, .S, .S] [0, 1, 2, 3, 4, 5, 6, 7, 8, 9, 10, 11, 12, 13, 14, 15] (by kernel_rfl) (by kernel_rfl) ?_
        refine WpPi.ps rfl trivial ?_
        refine WpPi.consS rfl rfl rfl rfl (Exact.load rfl rfl w.box rfl rfl) ?_
        refine WpPi.ps rfl trivial ?_
        refine WpPi.consI rfl rfl rfl rfl (fun _ => Exact.indexAddr_buf (size := 1) rfl rfl rfl lk rfl rfl (by decide)) ?_
        refine WpPi.consS rfl rfl rfl rfl (Exact.load_row (i := k) (f := 0) rfl rfl w.t rfl (by decide) (map_at hk) rfl) ?_
        refine WpPi.ps rfl trivial ?_
        refine WpPi.consS rfl rfl rfl rfl (Exact.load rfl rfl w.box rfl rfl) ?_
        refine WpPi.ps rfl trivial ?_
        refine WpPi.consI rfl rfl rfl rfl (fun _ => Exact.indexAddr_buf (size := 1) rfl rfl rfl lj rfl rfl (by decide)) ?_
        refine WpPi.consS rfl rfl rfl rfl (Exact.load_row (i := j) (f := 0) rfl rfl w.t rfl (by decide) (map_at hj) rfl) ?_
        refine WpPi.consS rfl rfl rfl rfl (Exact.call rfl rfl rfl (ref_equal h8 _)) ?_
        refine WpPi.ps rfl trivial (WpPi.nil ?_)
        refine WpC.seqD [.I, .I, .I, .I, .S, .I, .I, .S, .I, .I, .I, .S, .I, .I, .S] [0, 1, 2, 3, 4, 5, 6, 7, 8, 9, 10, 11, 12, 13, 14, 15, 16] (by kernel_rfl) (by kernel_rfl) ?_
        refine WpPi.ps rfl trivial ?_
        refine WpPi.consS rfl rfl rfl rfl (Exact.load rfl rfl w.box rfl rfl) ?_
        refine WpPi.ps rfl trivial ?_
        refine WpPi.consI rfl rfl rfl rfl (fun _ => Exact.indexAddr_buf (size := 1) rfl rfl rfl lk rfl rfl (by decide)) ?_
        refine WpPi.consS rfl rfl rfl rfl (Exact.load_row (i := k) (f := 0) rfl rfl w.l rfl (by decide) (map_at hk) rfl) ?_
        refine WpPi.ps rfl trivial ?_
        refine WpPi.consS rfl rfl rfl rfl (Exact.load rfl rfl w.box rfl rfl) ?_
        refine WpPi.ps rfl trivial ?_
        refine WpPi.consI rfl rfl rfl rfl (fun _ => Exact.indexAddr_buf (size := 1) rfl rfl rfl lj rfl rfl (by decide)) ?_
        refine WpPi.consS rfl rfl rfl rfl (Exact.load_row (i := j) (f := 0) rfl rfl w.l rfl (by decide) (map_at hj) rfl) ?_
        refine WpPi.ps rfl trivial ?_
        refine WpPi.at 117 (row_eq w.ar.wf hn hm) ?_
        refine WpPi.nil ?_
        refine WpC.condF rfl ?_
        refine WpC.skip ?_
        refine WpC.region (WpOps.ps rfl (by simp only [conj, inR]; omega) (WpOps.nil ?_))
        exact ⟨j + 1, meas ljk, ⟨rfl, rfl, rfl, rfl, rfl, trivial⟩, ljk, rfl⟩
      · intro hc
        refine WpC.exit ?_
        refine WpC.region (WpOps.ps rfl (by simp only [conj, inR]; omega) (WpOps.nil ?_))
        exact ⟨k + 1, meas lk, ⟨rfl, rfl, rfl, rfl, trivial⟩, lk, rfl⟩
  · intro hc
    refine WpC.exit ?_
    refine WpC.seqR (WpOps.ps rfl trivial (WpOps.nil ?_))
    refine WpC.ret ?_
    refine VEnds.ret1 rfl rfl ?_
    exact rfl

theorem plays_lifted (os : Os) (started : os.Started) (H : Type) (enc : TypeId × Value → H) :
    ReturnsInHanded {} Try.checked os 7 .any (Rows.bddPlaysSpec.pre6 enc Try.prog Try.f7 Rows.bddPlaysRow.domain false) (Rows.bddPlaysSpec.post enc Try.prog Try.f7 false true false false) := by
  refine returnsInHanded_of_change (C := Try.checked) Try.own started (by kernel_rfl) Try.func7
    (ChangeSpec.witness6 (enc := enc) (C := Try.checked) false ⟨#[], #[.int .i64 0, .slice none 0 0], []⟩ 8 (by kernel_rfl) (by kernel_rfl) (by kernel_rfl) (by kernel_rfl)) ?_
  intro W base args ds gs before hval hW _ _
  refine law_post (P := Try.prog) (n := 8) ⟨rfl, fun H ds h => ?_⟩ Try.laidOut (by kernel_rfl) (by kernel_rfl) (show Try.f7.resultTypes = #[4] by kernel_rfl) Try.underlying4 hval hW fun xs hx => ?_
  · match ds, h with
    | [d0, d1], _ => rfl
  · rw [Try.params7] at hx
    obtain ⟨i, r, wi, rfl, h1⟩ := ArgsC.int Try.underlying3 hx
    obtain ⟨l, r, hl, hll, rfl, h2⟩ := args_ops h1
    cases h2
    exact plays_call hl hll _

theorem plays_holds : Rows.BddPlaysSaid :=
  OpenClaim.holds_of_wide 7 Try.f7 rfl rfl rfl rfl rfl rfl rfl ⟨rfl, rfl, rfl, rfl, rfl⟩ rfl rfl rfl rfl rfl (by kernel_rfl) Try.func7 (by kernel_rfl)
    (of_decide_eq_true (by kernel_rfl)) (by unfold Func.isWrapper; first | (rw [if_pos (by decide +kernel)]; kernel_rfl) | (rw [if_neg (by decide +kernel)]; exact ⟨rfl, rfl⟩))
    (fun os started H enc _ => plays_lifted os started H enc)
end Go.Proofs.Ytkhgiieglpdejaa
