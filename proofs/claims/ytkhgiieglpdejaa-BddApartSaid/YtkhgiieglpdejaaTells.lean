/-
  What the functions of package bdd answer that tell of a condition; a name told; a new arena.
-/
import Derived.Test.YtkhgiieglpdejaaOps
set_option linter.unusedVariables false
set_option linter.unusedSimpArgs false
namespace Go.Proofs.Ytkhgiieglpdejaa
open Go Go.Vc Go.Vc.Bdd
attribute [local irreducible] WpC WpOps WpPi WpO Exact TCall VEnds

/-- a set, as an assignment -/
def asg (set : Nat) : Asg := fun i => set.testBit i

theorem InA.le {H H' : Heap} {v : Nat} {ds : List Dec} {g ga c gm : Nat} {es : List (Value × AV)} (a : InA H v ds g ga c gm es) (h : H.le H') : InA H' v ds g ga c gm es :=
  ⟨h _ _ a.box, h _ _ a.row, h _ _ a.map, a.keys, a.known, a.wf⟩

theorem bdd_holds {H : Heap} {v : Nat} {ds : List Dec} {g ga c gm : Nat} {es : List (Value × AV)} (a : InA H v ds g ga c gm es) (hv : v ≤ 8) {n set : Nat} (hn : n < ds.length) (hset : set < 2 ^ v) :
    TCall Try.prog 33 [pA g, iA n, iA set] H (fun x H' => x = .lit (.bool (sem ds n (asg set))) ∧ H' = H) noE := by
  have h8 := pow8 hv
  refine TCall.up (TCall.body Try.func33 rfl rfl ?_)
  refine WpC.seqR (WpOps.ps rfl trivial (WpOps.nil ?_))
  refine WpC.seq ?_
  refine WpC.block ?_
  refine WpC.loopK (fun x : Nat => [(1, iA x), (0, pA g), (2, iA set)]) (fun x H' => x < ds.length ∧ sem ds x (asg set) = sem ds n (asg set) ∧ H.le H') (fun x => x) n ⟨rfl, rfl, rfl, trivial⟩ ⟨hn, rfl, Heap.le_refl _⟩ ?_
  rintro k env H' ⟨hk, hs, hle⟩
  have a' := a.le hle
  refine WpC.seq ?_
  refine WpC.seqR (WpOps.ps rfl trivial (WpOps.nil ?_))
  refine WpC.condP rfl ?_ ?_
  · intro hc
    have h2 : 2 ≤ k := by omega
    obtain ⟨d, hd⟩ : ∃ d, ds[k]? = some d := ⟨_, List.getElem?_eq_getElem hk⟩
    have f := a.wf.fine k d h2 hd
    have fn := f.name
    have f1 := f.off
    have f2 := f.on
    refine WpC.skip ?_
    refine WpC.block ?_
    refine WpC.seqR ?_
    refine WpOps.ps rfl trivial ?_
    refine WpOps.consE rfl rfl (Exact.load rfl rfl a'.box rfl rfl) ?_
    refine WpOps.ps rfl trivial ?_
    refine WpOps.consE rfl rfl (Exact.indexAddr_buf (size := 3) rfl rfl rfl hk rfl rfl (by decide)) ?_
    refine WpOps.consE rfl rfl (Exact.load_row (i := k) (f := 0) rfl rfl a'.row rfl (by decide) (at_dec hd) rfl) ?_
    refine WpOps.consG rfl rfl (WpO.alloc rfl rfl fun gd hgd => ?_)
    refine WpOps.consG rfl rfl (WpO.init rfl rfl rfl rfl rfl rfl rfl rfl rfl ?_)
    refine WpOps.nil ?_
    obtain ⟨H1, e1⟩ : ∃ H1, H1 = H'.set gd (.cells 72 (encD d)) := ⟨_, rfl⟩
    refine WpC.heap e1.symm ?_
    have b1 : H1 gd = some (.cells 72 (encD d)) := by rw [e1]; exact Heap.set_same _ _ _
    have hle1 : H'.le H1 := by rw [e1]; exact Heap.set_drop hgd _
    have a1 := a'.le hle1
    refine WpC.draw [.I, .I, .I, .S, .I, .I, .S, .I, .I, .I, .S] [0, 1, 2, 3, 4, 5, 6, 7, 8, 9, 10, 11] (by kernel_rfl) (by kernel_rfl) ?_
    refine WpPi.ps rfl trivial ?_
    refine WpPi.consS rfl rfl rfl rfl (Exact.load rfl rfl b1 rfl rfl) ?_
    refine WpPi.ps rfl trivial ?_
    refine WpPi.consS rfl rfl rfl rfl (Exact.load rfl rfl b1 rfl rfl) ?_
    refine WpPi.ps rfl (by simp only [conj]; omega) ?_
    refine WpPi.at 26 (congrArg (fun b => AV.lit (.bool b)) (bit1 (s := set) (i := d.name) (by omega) (by omega))) ?_
    refine WpPi.consS rfl rfl rfl rfl (Exact.call rfl rfl rfl (bdd_side a1 (name := d.name) (on := set.testBit d.name) hd)) ?_
    refine WpPi.ps rfl trivial (WpPi.nil ?_)
    have es : sideOf d k d.name (set.testBit d.name) = if set.testBit d.name then d.on else d.off := if_neg (by omega)
    refine ⟨sideOf d k d.name (set.testBit d.name), ?_, ⟨rfl, rfl, rfl, trivial⟩, ?_, ?_, Heap.le_trans hle hle1⟩
    · rw [es]; split <;> omega
    · rw [es]; split <;> omega
    · rw [es, ← hs, sem_step a.wf h2 hd]; rfl
  · intro hc
    have h1 : k ≤ 1 := by omega
    refine WpC.exit ?_
    refine WpC.seqR (WpOps.ps rfl trivial (WpOps.nil ?_))
    refine WpC.ret ?_
    refine VEnds.ret1 rfl rfl ?_
    refine ⟨_, _, Up.drop hle _, ?_, rfl⟩
    rw [← hs]
    rcases (show k = 0 ∨ k = 1 by omega) with rfl | rfl <;> rfl

theorem bdd_Vars {H : Heap} {v : Nat} {ds : List Dec} {g ga c gm : Nat} {es : List (Value × AV)} (a : InA H v ds g ga c gm es) : TCall Try.prog 30 [pA g] H (fun x H' => x = iA v ∧ H' = H) noE := by
  refine TCall.body Try.func30 rfl rfl ?_
  refine WpC.seqR (WpOps.ps rfl trivial (WpOps.nil ?_))
  refine WpC.seqR ?_
  refine WpOps.ps rfl trivial ?_
  refine WpOps.consE rfl rfl (Exact.load rfl rfl a.box rfl rfl) ?_
  refine WpOps.ps rfl trivial (WpOps.nil ?_)
  refine WpC.ret ?_
  exact VEnds.ret1 rfl rfl ⟨rfl, rfl⟩

/-- Holds: any condition, any set -/
def holdsOf (v : Nat) (ds : List Dec) (n set : Int) : AV :=
  if 0 ≤ n ∧ n < ds.length then (if 0 ≤ set ∧ set < (2 ^ v : Nat) then .tup [.lit (.bool (sem ds n.toNat (asg set.toNat))), iA 0] else .tup [.lit (.bool false), iA 1]) else .tup [.lit (.bool false), iA 10]
theorem right1 (len : Nat) (n : Int) : rightOf len [n] = decide (0 ≤ n ∧ n < len) := by unfold rightOf; simp
theorem bdd_Holds {H : Heap} {v : Nat} {ds : List Dec} {g ga c gm : Nat} {es : List (Value × AV)} (a : InA H v ds g ga c gm es) (hv : v ≤ 8) (n set : Int) (hlen : ds.length ≤ 900000) :
    TCall Try.prog 27 [pA g, .lit (.int .i64 n), .lit (.int .i64 set)] H (fun x H' => x = holdsOf v ds n set ∧ H' = H) noE := by
  have h8 := pow8 hv
  refine TCall.body Try.func27 rfl rfl ?_
  refine WpC.seqR (WpOps.ps rfl trivial (WpOps.nil ?_))
  refine WpC.seq ?_
  refine WpC.block ?_
  refine WpC.seqR ?_
  refine WpOps.ps rfl trivial ?_
  refine WpOps.consE rfl rfl (Exact.litSlice rfl rfl) ?_
  refine WpOps.consE rfl rfl (Exact.call rfl rfl rfl (bdd_right a [n] (by simp) (by omega))) ?_
  refine WpOps.at 12 (congrArg (fun b => AV.lit (.bool b)) (right1 ds.length n)) ?_
  refine WpOps.ps rfl trivial (WpOps.nil ?_)
  refine WpC.condN rfl ?_ ?_
  · intro hc
    refine WpC.seqR (WpOps.ps rfl trivial (WpOps.nil ?_))
    refine WpC.ret ?_
    refine VEnds.ret2 rfl rfl rfl ⟨?_, rfl⟩
    unfold holdsOf; rw [if_neg hc]; rfl
  · intro hc
    refine WpC.seqR ?_
    refine WpOps.cutB 12 14 (.lit (.bool (decide (¬ (0 ≤ set ∧ set < (2 ^ v : Nat)))))) rfl ?_ ?_
    · refine WpOps.pn 3 rfl trivial ?_
      refine WpOps.split 17 rfl ?_ ?_
      · intro h
        refine WpOps.ps rfl trivial (WpOps.nil ⟨?_, rfl⟩)
        have h : set < 0 := by simpa using h
        exact congrArg (fun b => AV.lit (.bool b)) (decide_eq_true (p := ¬ (0 ≤ set ∧ set < ((2 ^ v : Nat) : Int))) (fun h2 => by omega)).symm
      · intro h
        have h : ¬ set < 0 := by simpa using h
        refine WpOps.ps rfl trivial ?_
        refine WpOps.consE rfl rfl (Exact.load rfl rfl a.box rfl rfl) ?_
        refine WpOps.ps rfl (by simp only [conj]; omega) (WpOps.nil ⟨?_, rfl⟩)
        exact congrArg (fun b => AV.lit (.bool b)) (decide_eq_decide.2 (by rw [shl1 hv]; omega))
    intro env0
    refine WpOps.nil ?_
    refine WpC.condP rfl ?_ ?_
    · intro hb
      refine WpC.seqR (WpOps.ps rfl trivial (WpOps.nil ?_))
      refine WpC.ret ?_
      refine VEnds.ret2 rfl rfl rfl ⟨?_, rfl⟩
      unfold holdsOf; rw [if_pos hc, if_neg hb]; rfl
    · intro hb
      have hb : 0 ≤ set ∧ set < (2 ^ v : Nat) := Decidable.of_not_not hb
      have e : holdsOf v ds n set = .tup [.lit (.bool (sem ds n.toNat (asg set.toNat))), iA 0] := by unfold holdsOf; rw [if_pos hc, if_pos hb]
      rw [e]
      obtain ⟨n, rfl⟩ : ∃ k : Nat, n = k := ⟨n.toNat, by omega⟩
      obtain ⟨set, rfl⟩ : ∃ k : Nat, set = k := ⟨set.toNat, by omega⟩
      refine WpC.skip ?_
      refine WpC.seqR ?_
      refine WpOps.ps rfl trivial ?_
      refine WpOps.consE rfl rfl (Exact.call rfl rfl rfl (bdd_holds a hv (n := n) (set := set) (by omega) (by omega))) ?_
      refine WpOps.ps rfl trivial (WpOps.nil ?_)
      refine WpC.ret ?_
      exact VEnds.ret2 rfl rfl rfl ⟨rfl, rfl⟩

/-- a condition as a table -/
def semT (ds : List Dec) (n : Nat) : Nat → Bool := fun set => sem ds n (asg set)

theorem bdd_Sat {H : Heap} {v : Nat} {ds : List Dec} {g ga c gm : Nat} {es : List (Value × AV)} (a : InA H v ds g ga c gm es) (hv : v ≤ 8) (n : Int) (hlen : ds.length ≤ 900000) :
    TCall Try.prog 12 [pA g, .lit (.int .i64 n)] H (fun x H' => x = (if 0 ≤ n ∧ n < ds.length then (match leastFrom (semT ds n.toNat) (2 ^ v) 0 with | some k => .tup [iA k, .lit (.bool true), iA 0] | none => .tup [iA 0, .lit (.bool false), iA 0]) else .tup [iA 0, .lit (.bool false), iA 10]) ∧ H' = H) noE := by
  have h8 := pow8 hv
  refine TCall.body Try.func12 rfl rfl ?_
  refine WpC.seqR (WpOps.ps rfl trivial (WpOps.nil ?_))
  refine WpC.seq ?_
  refine WpC.seqR ?_
  refine WpOps.ps rfl trivial ?_
  refine WpOps.consE rfl rfl (Exact.litSlice rfl rfl) ?_
  refine WpOps.consE rfl rfl (Exact.call rfl rfl rfl (bdd_right a [n] (by simp) (by omega))) ?_
  refine WpOps.at 11 (congrArg (fun b => AV.lit (.bool b)) (right1 ds.length n)) ?_
  refine WpOps.ps rfl trivial (WpOps.nil ?_)
  refine WpC.condN rfl ?_ ?_
  · intro hc
    refine WpC.seqR (WpOps.ps rfl trivial (WpOps.nil ?_))
    refine WpC.ret ?_
    refine VEnds.ret3 rfl rfl rfl rfl ⟨?_, rfl⟩
    rw [if_neg hc]; rfl
  · intro hc
    rw [if_pos hc]
    obtain ⟨n, rfl⟩ : ∃ k : Nat, n = k := ⟨n.toNat, by omega⟩
    rw [Int.toNat_natCast]
    refine WpC.skip ?_
    refine WpC.seq ?_
    refine WpC.seqR ?_
    refine WpOps.ps rfl trivial ?_
    refine WpOps.consE rfl rfl (Exact.load rfl rfl a.box rfl rfl) ?_
    refine WpOps.ps rfl (by simp only [conj]; omega) (WpOps.nil ?_)
    refine WpC.at 17 (congrArg (fun z => AV.lit (.int .i64 z)) (shl1 hv)) ?_
    refine WpC.block ?_
    refine WpC.loopK (fun x : Nat => [(18, iA x), (17, iA (2 ^ v)), (0, pA g), (1, iA n)]) (fun x H' => x ≤ 2 ^ v ∧ leastFrom (semT ds n) (2 ^ v) 0 = leastFrom (semT ds n) (2 ^ v - x) x ∧ H' = H) (fun x => 2 ^ v - x) 0 ⟨rfl, rfl, rfl, rfl, trivial⟩ ⟨Nat.zero_le _, rfl, rfl⟩ ?_
    rintro k env H' ⟨hk, hl, rfl⟩
    refine WpC.seqR (WpOps.ps rfl trivial (WpOps.nil ?_))
    refine WpC.seq ?_
    refine WpC.condP rfl ?_ ?_
    · intro hk2
      have hk2 : k < 2 ^ v := Int.ofNat_lt.1 hk2
      refine WpC.skip ?_
      refine WpC.seq ?_
      refine WpC.block ?_
      refine WpC.seqR (WpOps.ps rfl trivial (WpOps.nil ?_))
      refine WpC.seqR ?_
      refine WpOps.ps rfl trivial ?_
      refine WpOps.consE rfl rfl (Exact.call rfl rfl rfl (bdd_holds a hv (n := n) (set := k) (by omega) hk2)) ?_
      refine WpOps.nil ?_
      refine WpC.condB rfl ?_ ?_
      · intro h1
        refine WpC.seqR (WpOps.ps rfl trivial (WpOps.nil ?_))
        refine WpC.ret ?_
        refine VEnds.ret3 rfl rfl rfl rfl ⟨?_, rfl⟩
        rw [hl, leastFrom_hit hk2 (f := semT ds n) h1]; rfl
      · intro h1
        refine WpC.skip ?_
        refine WpC.region (WpOps.ps rfl (by simp only [conj, inR]; omega) (WpOps.nil ?_))
        exact ⟨k + 1, by omega, ⟨rfl, rfl, rfl, rfl, trivial⟩, hk2, by rw [hl, leastFrom_step hk2 (f := semT ds n) h1], rfl⟩
    · intro hk2
      have hk2 : k = 2 ^ v := by have := fun h => hk2 (Int.ofNat_lt.2 h); omega
      subst hk2
      refine WpC.exit ?_
      refine WpC.seqR (WpOps.ps rfl trivial (WpOps.nil ?_))
      refine WpC.ret ?_
      refine VEnds.ret3 rfl rfl rfl rfl ⟨?_, rfl⟩
      rw [hl, Nat.sub_self]; rfl

theorem bdd_Count {H : Heap} {v : Nat} {ds : List Dec} {g ga c gm : Nat} {es : List (Value × AV)} (a : InA H v ds g ga c gm es) (hv : v ≤ 8) (n : Int) (hlen : ds.length ≤ 900000) :
    TCall Try.prog 14 [pA g, .lit (.int .i64 n)] H (fun x H' => x = (if 0 ≤ n ∧ n < ds.length then eA (iA (countOf (2 ^ v) (semT ds n.toNat))) 0 else eA (iA 0) 10) ∧ H' = H) noE := by
  have h8 := pow8 hv
  refine TCall.body Try.func14 rfl rfl ?_
  refine WpC.seqR (WpOps.ps rfl trivial (WpOps.nil ?_))
  refine WpC.seq ?_
  refine WpC.seqR ?_
  refine WpOps.ps rfl trivial ?_
  refine WpOps.consE rfl rfl (Exact.litSlice rfl rfl) ?_
  refine WpOps.consE rfl rfl (Exact.call rfl rfl rfl (bdd_right a [n] (by simp) (by omega))) ?_
  refine WpOps.at 11 (congrArg (fun b => AV.lit (.bool b)) (right1 ds.length n)) ?_
  refine WpOps.ps rfl trivial (WpOps.nil ?_)
  refine WpC.condN rfl ?_ ?_
  · intro hc
    refine WpC.seqR (WpOps.ps rfl trivial (WpOps.nil ?_))
    refine WpC.ret ?_
    refine VEnds.ret2 rfl rfl rfl ⟨?_, rfl⟩
    rw [if_neg hc]; rfl
  · intro hc
    rw [if_pos hc]
    obtain ⟨n, rfl⟩ : ∃ k : Nat, n = k := ⟨n.toNat, by omega⟩
    rw [Int.toNat_natCast]
    refine WpC.skip ?_
    refine WpC.seqR (WpOps.ps rfl trivial (WpOps.nil ?_))
    refine WpC.seq ?_
    refine WpC.seqR ?_
    refine WpOps.ps rfl trivial ?_
    refine WpOps.consE rfl rfl (Exact.load rfl rfl a.box rfl rfl) ?_
    refine WpOps.ps rfl (by simp only [conj]; omega) (WpOps.nil ?_)
    refine WpC.at 17 (congrArg (fun z => AV.lit (.int .i64 z)) (shl1 hv)) ?_
    refine WpC.block ?_
    refine WpC.loopK (fun x : Nat => [(18, iA x), (17, iA (2 ^ v)), (0, pA g), (1, iA n), (6, iA (countOf x (semT ds n)))]) (fun x H' => x ≤ 2 ^ v ∧ H' = H) (fun x => 2 ^ v - x) 0 ⟨rfl, rfl, rfl, rfl, rfl, trivial⟩ ⟨Nat.zero_le _, rfl⟩ ?_
    rintro k env H' ⟨hk, rfl⟩
    have hcl := countOf_le k (semT ds n)
    refine WpC.seqR (WpOps.ps rfl trivial (WpOps.nil ?_))
    refine WpC.seq ?_
    refine WpC.condP rfl ?_ ?_
    · intro hk2
      have hk2 : k < 2 ^ v := Int.ofNat_lt.1 hk2
      refine WpC.skip ?_
      refine WpC.seq ?_
      refine WpC.block ?_
      refine WpC.seqR (WpOps.ps rfl trivial (WpOps.nil ?_))
      refine WpC.seqR ?_
      refine WpOps.ps rfl trivial ?_
      refine WpOps.consE rfl rfl (Exact.call rfl rfl rfl (bdd_holds a hv (n := n) (set := k) (by omega) hk2)) ?_
      refine WpOps.nil ?_
      refine WpC.condB rfl ?_ ?_
      · intro h1
        have h1 : semT ds n k = true := h1
        refine WpC.region (WpOps.ps rfl (by simp only [conj, inR]; omega) (WpOps.nil ?_))
        refine WpC.at 6 (v := iA (countOf (k + 1) (semT ds n))) (by rw [countOf_succ, h1]; rfl) ?_
        refine WpC.region (WpOps.ps rfl (by simp only [conj, inR]; omega) (WpOps.nil ?_))
        exact ⟨k + 1, by omega, ⟨rfl, rfl, rfl, rfl, rfl, trivial⟩, hk2, rfl⟩
      · intro h1
        have h1 : semT ds n k = false := h1
        refine WpC.skip ?_
        refine WpC.at 6 (v := iA (countOf (k + 1) (semT ds n))) (by rw [countOf_succ, h1]; rfl) ?_
        refine WpC.region (WpOps.ps rfl (by simp only [conj, inR]; omega) (WpOps.nil ?_))
        exact ⟨k + 1, by omega, ⟨rfl, rfl, rfl, rfl, rfl, trivial⟩, hk2, rfl⟩
    · intro hk2
      have hk2 : k = 2 ^ v := by have := fun h => hk2 (Int.ofNat_lt.2 h); omega
      subst hk2
      refine WpC.exit ?_
      refine WpC.seqR (WpOps.ps rfl trivial (WpOps.nil ?_))
      refine WpC.ret ?_
      exact VEnds.ret2 rfl rfl rfl ⟨rfl, rfl⟩
end Go.Proofs.Ytkhgiieglpdejaa
