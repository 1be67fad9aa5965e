/-
  What is proved: the law BddTells answers true, for every number of names and every list of ops; condition: none beyond the statement's own.
-/
import Derived.Test.YtkhgiieglpdejaaLift
set_option linter.unusedVariables false
set_option linter.unusedSimpArgs false
namespace Go.Proofs.Ytkhgiieglpdejaa
open Go Go.ChangeShapes Go.WideShapes Go.ChangeAt Go.RowKit Go.Vc Go.Vc.Bdd
attribute [local irreducible] WpC WpOps WpPi WpO Exact TCall VEnds

set_option maxRecDepth 20000 in
theorem tells_call {v : Int} {l : List Op6} (hl : ∀ o ∈ l, o.Ok) (hll : l.length ≤ 9223372036854775807) (H : Heap) : TCall Try.prog 3 [zI v, .rows 6 (l.map encO)] H (fun x _ => x = .lit (.bool true)) noE := by
  refine TCall.body Try.func3 rfl rfl ?_
  refine WpC.seqR (WpOps.ps rfl trivial (WpOps.nil ?_))
  refine WpC.seqR ?_
  refine WpOps.consE rfl rfl (Exact.call rfl rfl rfl (law_awake _)) ?_
  refine WpOps.ps rfl trivial (WpOps.nil ?_)
  refine WpC.seqR ?_
  refine WpOps.ps rfl trivial ?_
  refine WpOps.consG rfl rfl (WpO.call rfl rfl rfl ((law_built hl hll _).mono ?_ (fun _ _ h => h.elim)))
  intro x H1 hx
  rcases hx with ⟨rfl, _⟩ | ⟨ds, ns, gw, g, ga, c, gm, es, gl, cl, gt, ct, hv0, hv8, rfl, w, hn2, hnk, hdk⟩
  · refine WpOps.ps rfl trivial (WpOps.nil ?_)
    refine WpC.seq ?_
    refine WpC.seqR (WpOps.ps rfl trivial (WpOps.nil ?_))
    refine WpC.condT rfl ?_
    refine WpC.seqR (WpOps.ps rfl trivial (WpOps.nil ?_))
    refine WpC.ret ?_
    refine VEnds.ret1 rfl rfl ?_
    exact rfl
  have hv : v.toNat ≤ 8 := by omega
  have h8 := pow8 hv
  have hnk : ns.length ≤ 32 := hnk
  have hdk : ds.length ≤ 30722 := hdk
  clear hv0 hv8
  refine WpOps.ps rfl trivial (WpOps.nil ?_)
  refine WpC.seq ?_
  refine WpC.seqR (WpOps.ps rfl trivial (WpOps.nil ?_))
  refine WpC.condF rfl ?_
  refine WpC.skip ?_
  refine WpC.seq ?_
  refine WpC.seqR (WpOps.ps rfl trivial (WpOps.nil ?_))
  refine WpC.condF rfl ?_
  refine WpC.skip ?_
  refine WpC.seq ?_
  refine WpC.seqR (WpOps.ps rfl trivial (WpOps.nil ?_))
  refine WpC.block ?_
  refine WpC.loopK (fun x : Nat => [(8, iA x), (6, pA gw), (5, .lit (.bool true))]) (fun x H' => x ≤ ns.length ∧ H' = H1) (fun x => ns.length - x) 0 ⟨rfl, rfl, rfl, trivial⟩ ⟨Nat.zero_le _, rfl⟩ ?_
  rintro k env H' ⟨hkn, rfl⟩
  refine WpC.seq ?_
  refine WpC.seqR ?_
  refine WpOps.ps rfl trivial ?_
  refine WpOps.consE rfl rfl (Exact.load rfl rfl w.box rfl rfl) ?_
  refine WpOps.ps rfl trivial (WpOps.nil ?_)
  refine WpC.condP rfl ?_ ?_
  · intro hc
    have lk : k < ns.length := Int.ofNat_lt.1 hc
    obtain ⟨n, hk⟩ : ∃ n, ns[k]? = some n := ⟨_, List.getElem?_eq_getElem lk⟩
    have hn := w.lt n (List.mem_of_getElem? hk)
    refine WpC.skip ?_
    refine WpC.seq ?_
    refine WpC.block ?_
    refine WpC.seqD [.I, .I, .I, .S, .I, .I, .I, .S, .I, .I, .S, .S] [0, 1, 2, 3, 4, 5, 6, 7, 8, 9, 10, 11, 12, 13, 14, 15, 16, 17, 18] (by kernel_rfl) (by kernel_rfl) ?_
    refine WpPi.ps rfl trivial ?_
    refine WpPi.consS rfl rfl rfl rfl (Exact.load rfl rfl w.box rfl rfl) ?_
    refine WpPi.ps rfl trivial ?_
    refine WpPi.consS rfl rfl rfl rfl (Exact.load rfl rfl w.box rfl rfl) ?_
    refine WpPi.ps rfl trivial ?_
    refine WpPi.consI rfl rfl rfl rfl (fun _ => Exact.indexAddr_buf (size := 1) rfl rfl rfl lk rfl rfl (by decide)) ?_
    refine WpPi.consS rfl rfl rfl rfl (Exact.load_row (i := k) (f := 0) rfl rfl w.l rfl (by decide) (map_at hk) rfl) ?_
    refine WpPi.consS rfl rfl rfl rfl (Exact.call rfl rfl rfl (bdd_Sat'' w.ar hv (n := n) hn (by omega))) ?_
    refine WpPi.ps rfl trivial (WpPi.nil ?_)
    refine WpC.seqR ?_
    refine WpOps.ps rfl trivial ?_
    refine WpOps.consE rfl rfl (Exact.load rfl rfl w.box rfl rfl) ?_
    refine WpOps.ps rfl trivial ?_
    refine WpOps.consE rfl rfl (Exact.indexAddr_buf (size := 1) rfl rfl rfl lk rfl rfl (by decide)) ?_
    refine WpOps.consE rfl rfl (Exact.load_row (i := k) (f := 0) rfl rfl w.t rfl (by decide) (map_at hk) rfl) ?_
    refine WpOps.consE rfl rfl (Exact.call rfl rfl rfl (ref_sat' h8 _)) ?_
    refine WpOps.ps rfl trivial (WpOps.nil ?_)
    refine WpC.seqD [.I, .I, .I, .S, .I, .I, .I, .S, .I, .I, .S, .S] [0, 1, 2, 3, 4, 5, 6, 7, 8, 9, 10, 11, 12, 13, 14, 15, 16] (by kernel_rfl) (by kernel_rfl) ?_
    refine WpPi.ps rfl trivial ?_
    refine WpPi.consS rfl rfl rfl rfl (Exact.load rfl rfl w.box rfl rfl) ?_
    refine WpPi.ps rfl trivial ?_
    refine WpPi.consS rfl rfl rfl rfl (Exact.load rfl rfl w.box rfl rfl) ?_
    refine WpPi.ps rfl trivial ?_
    refine WpPi.consI rfl rfl rfl rfl (fun _ => Exact.indexAddr_buf (size := 1) rfl rfl rfl lk rfl rfl (by decide)) ?_
    refine WpPi.consS rfl rfl rfl rfl (Exact.load_row (i := k) (f := 0) rfl rfl w.l rfl (by decide) (map_at hk) rfl) ?_
    refine WpPi.consS rfl rfl rfl rfl (Exact.call rfl rfl rfl (bdd_Count' w.ar hv (n := n) hn (by omega))) ?_
    refine WpPi.ps rfl trivial (WpPi.nil ?_)
    refine WpC.seqD [.I, .I, .I, .S, .I, .I, .I, .S, .I, .I, .S, .E] [0, 1, 2, 3, 4, 5, 6, 7, 8, 9, 10, 11, 12, 13, 14, 15, 16] (by kernel_rfl) (by kernel_rfl) ?_
    refine WpPi.ps rfl trivial ?_
    refine WpPi.consS rfl rfl rfl rfl (Exact.load rfl rfl w.box rfl rfl) ?_
    refine WpPi.ps rfl trivial ?_
    refine WpPi.consS rfl rfl rfl rfl (Exact.load rfl rfl w.box rfl rfl) ?_
    refine WpPi.ps rfl trivial ?_
    refine WpPi.consI rfl rfl rfl rfl (fun _ => Exact.indexAddr_buf (size := 1) rfl rfl rfl lk rfl rfl (by decide)) ?_
    refine WpPi.consS rfl rfl rfl rfl (Exact.load_row (i := k) (f := 0) rfl rfl w.l rfl (by decide) (map_at hk) rfl) ?_
    refine WpPi.consE rfl rfl rfl rfl (WpO.call rfl rfl rfl ((bdd_Only' w.ar hv (n := n) hn (by omega)).mono ?_ (fun _ _ h => h.elim)))
    rintro _ _ ⟨⟨set, rfl, hset, hang⟩, rfl⟩
    obtain rfl := only_is w.ar.wf hn hang
    refine WpPi.ps rfl trivial (WpPi.nil ?_)
    refine WpC.seqR ?_
    refine WpOps.pn 3 rfl trivial ?_
    refine WpOps.at 98 (neq_self _) ?_
    refine WpOps.pn 4 rfl trivial ?_
    refine WpOps.at 102 (bneq_self _) ?_
    refine WpOps.ps rfl trivial ?_
    refine WpOps.consE rfl rfl (Exact.load rfl rfl w.box rfl rfl) ?_
    refine WpOps.ps rfl trivial ?_
    refine WpOps.consE rfl rfl (Exact.indexAddr_buf (size := 1) rfl rfl rfl lk rfl rfl (by decide)) ?_
    refine WpOps.consE rfl rfl (Exact.load_row (i := k) (f := 0) rfl rfl w.t rfl (by decide) (map_at hk) rfl) ?_
    refine WpOps.consE rfl rfl (Exact.call rfl rfl rfl (ref_count h8 _)) ?_
    refine WpOps.pn 1 rfl trivial ?_
    refine WpOps.at 118 (neq_self _) ?_
    refine WpOps.ps rfl trivial ?_
    refine WpOps.consE rfl rfl (Exact.load rfl rfl w.box rfl rfl) ?_
    refine WpOps.ps rfl trivial ?_
    refine WpOps.consE rfl rfl (Exact.indexAddr_buf (size := 1) rfl rfl rfl lk rfl rfl (by decide)) ?_
    refine WpOps.consE rfl rfl (Exact.load_row (i := k) (f := 0) rfl rfl w.t rfl (by decide) (map_at hk) rfl) ?_
    refine WpOps.consE rfl rfl (Exact.call rfl rfl rfl (ref_only hv _)) ?_
    refine WpOps.pn 1 rfl trivial ?_
    refine WpOps.at 134 (neq_self _) ?_
    refine WpOps.ps rfl trivial (WpOps.nil ?_)
    refine WpC.condF rfl ?_
    refine WpC.skip ?_
    refine WpC.region (WpOps.ps rfl (by simp only [conj, inR]; omega) (WpOps.nil ?_))
    exact ⟨k + 1, meas lk, ⟨rfl, rfl, rfl, trivial⟩, lk, rfl⟩
  · intro hc
    refine WpC.exit ?_
    refine WpC.seqR (WpOps.ps rfl trivial (WpOps.nil ?_))
    refine WpC.ret ?_
    refine VEnds.ret1 rfl rfl ?_
    exact rfl

theorem tells_lifted (os : Os) (started : os.Started) (H : Type) (enc : TypeId × Value → H) :
    ReturnsInHanded {} Try.checked os 3 .any (Rows.bddTellsSpec.pre6 enc Try.prog Try.f3 Rows.bddTellsRow.domain false) (Rows.bddTellsSpec.post enc Try.prog Try.f3 false true false false) := by
  refine returnsInHanded_of_change (C := Try.checked) Try.own started (by kernel_rfl) Try.func3
    (ChangeSpec.witness6 (enc := enc) (C := Try.checked) false ⟨#[], #[.int .i64 0, .slice none 0 0], []⟩ 8 (by kernel_rfl) (by kernel_rfl) (by kernel_rfl) (by kernel_rfl)) ?_
  intro W base args ds gs before hval hW _ _
  refine law_post (P := Try.prog) (n := 8) ⟨rfl, fun H ds h => ?_⟩ Try.laidOut (by kernel_rfl) (by kernel_rfl) (show Try.f3.resultTypes = #[4] by kernel_rfl) Try.underlying4 hval hW fun xs hx => ?_
  · match ds, h with
    | [a, b], _ => rfl
  · rw [Try.params3] at hx
    obtain ⟨i, r, wi, rfl, h1⟩ := ArgsC.int Try.underlying3 hx
    obtain ⟨l, r, hl, hll, rfl, h2⟩ := args_ops h1
    cases h2
    exact tells_call hl hll _

theorem tells_holds : Rows.BddTellsSaid :=
  OpenClaim.holds_of_wide 3 Try.f3 rfl rfl rfl rfl rfl rfl rfl ⟨rfl, rfl, rfl, rfl, rfl⟩ rfl rfl rfl rfl rfl (by kernel_rfl) Try.func3 (by kernel_rfl)
    (of_decide_eq_true (by kernel_rfl)) (by unfold Func.isWrapper; first | (rw [if_pos (by decide +kernel)]; kernel_rfl) | (rw [if_neg (by decide +kernel)]; exact ⟨rfl, rfl⟩))
    (fun os started H enc _ => tells_lifted os started H enc)
end Go.Proofs.Ytkhgiieglpdejaa
