/-
  Part of the proof of If.
-/
import Derived.Test.YtgmpeddopfnioaaGreatDoorQiTyzx
import Derived.Maps.RangeRun
import Derived.Test.YtgmpeddopfnioaaGreatDoorQiSox
import Derived.Shelf.SortM.Plain
import Derived.Sort.OwnSorted
import Derived.Shelf.SortM.SortNone
import Derived.Ground.SlgmProg
import Derived.Test.YtgmpeddopfnioaaGreatDoorProg
import Derived.Test.YtgmpeddopfnioaaGreatDoorQiTvx
import Derived.Test.YtgmpeddopfnioaaGreatDoorQiBu
import Derived.Test.YtgmpeddopfnioaaGreatDoorChecked
import Derived.Lib.AppendZerosOnto

set_option linter.unusedVariables false
set_option linter.unusedSimpArgs false
namespace Go.Vc
open Go Go.ChangeMaps
def kS (s : List UInt8) : Value := .string ⟨⟨s⟩⟩
def kv (ks : List (List UInt8)) : List (Value × AV) := ks.map fun s => (kS s, AV.agg [])
theorem raw_dom {H : Heap} {g : Nat} {o o' : AObj} (hg : H g = some o) (h1 : o.ownd = true) (h2 : o'.ownd = true) : (H.set g o').dom = H.dom := by
 funext k; apply propext
 unfold Heap.dom
 by_cases e : k = g
 ·subst e
  rw [uO]
  exact ⟨fun _ => ⟨o, hg, h1⟩, fun _ => ⟨o', rfl, h2⟩⟩
 ·rw [uS _ _ e]
section
variable {P : Program} {N : Nat} {c : Code} {env : Env} {H H0 : Heap} {Q : QC} {o : Oper} {K : AV → Heap → Prop} {E : List PanicEntry → Heap → Prop}
end
end Go.Vc
set_option linter.unusedVariables false
set_option linter.unusedSimpArgs false
namespace Go.Vc
open Go Go.Sh
def SortsS (P : Program) (f : FuncId) : Prop := ∀ (blk off cap : Nat) (ss : List (List UInt8)) (w : World), Go.Sort.Holds Go.Proofs.encStr w blk off ss.toArray → blk < w.heap.size → ss.length < 4611686018427387904 →
 Calls P f #[.slice (some ⟨blk, off, none⟩) ss.length cap] w fun e w' => e = .returned (.tuple #[]) ∧ ∃ n os, w' = Go.Sort.grow (Go.Sort.putRow Go.Proofs.encStr (Go.Sort.ahead w n) blk off (sortS ss).toArray) os
theorem tcall_sort {P : Program} {f : FuncId} (hS : SortsS P f) {g c t : Nat} {ss : List (List UInt8)} {H : Heap} (hg : H g = some (.row t 1 (ss.map cS) c)) (hsz : ss.length < 4611686018427387904) :
    TCall P f [.own ss.length (some (g, c))] H (fun v H' => v = .tup [] ∧ H' = H.set g (.row t 1 ((sortS ss).map cS) c)) noE := by
  intro us w hv hh
  obtain ⟨u, us', rfl, h1, h2⟩ := hv.cons_inv
  obtain rfl := h2.nil_inv
  obtain rfl := h1.buf_inv
  obtain ⟨cur, b1, b2, b3, b4, b5, b6⟩ := hh g _ hg
  rw [List.length_map] at b3 b6
  have fl : ∀ l : List (List UInt8), (l.map cS).flatten = (l.map Go.Proofs.encStr).map AV.lit := by
    intro l
    induction l with
    | nil => rfl
    | cons x l ih => simp only [List.map_cons, List.flatten_cons, ih]; rfl
  rw [fl, Nat.mul_one] at b6
  have htk : cur.toList.take ss.length = ss.map Go.Proofs.encStr := b6.lits
  have hH := holds_of_block b1 htk
  have hlt := (Array.getElem?_eq_some_iff.1 b1).1
  refine (hS g 0 c ss w hH hlt hsz).mono ?_
  rintro e w' ⟨rfl, n, os, rfl⟩
  have hl : (sortS ss).length = ss.length := by simp [sortS]
  obtain ⟨q1, q2, q3, q4, q5⟩ := grownBy_sorted (w := w) (g := g) (n := n) (os := os) (sortS ss).toArray
  have hat := heap_sorted (w := w) (n := n) (os := os) (sortS ss).toArray b1
  have hd : (H.set g (.row t 1 ((sortS ss).map cS) c)).dom = H.dom := raw_dom hg rfl rfl
  have ev : Evol H w (H.set g (.row t 1 ((sortS ss).map cS) c)) (Go.Sort.grow (Go.Sort.putRow Go.Proofs.encStr (Go.Sort.ahead w n) g 0 (sortS ss).toArray) os) :=
    ⟨q1, q2, q3, q4, fun k hk hn => q5 k hk (fun e => by injection e with e; subst e; exact hn ⟨_, hg, rfl⟩), fun k hk => .inl (by rw [hd] at hk; exact hk)⟩
  refine ⟨_, ev, fun k x hx => ?_, .tup [], .tup [] rfl (fun i x u hx hu => by simp at hx), rfl, rfl⟩
  by_cases hk : k = g
  · subst hk
    rw [uO] at hx
    injection hx with hx
    subst hx
    refine ⟨_, hat, by simp [Go.Sort.putCells, b2], by rw [List.length_map, hl]; exact b3, b4, fun e he => by obtain ⟨q, _, rfl⟩ := List.mem_map.1 he; rfl, ?_⟩
    rw [fl, List.length_map, Nat.mul_one, take_putCells cur (sortS ss) (by omega)]
    exact VRs.map_lit _
  · rw [uS _ _ hk] at hx
    exact (hh k x hx).mono ev.size ev.hk (q5 k (hh k x hx).lt (fun e => by injection e with e; exact hk e))
theorem tcall_sort_nil {P : Program} {f : FuncId} (hS : ∀ (w : World), Calls P f #[.slice none 0 0] w fun e w' => e = .returned (.tuple #[]) ∧ w' = w) {H : Heap} : TCall P f [.own 0 none] H (fun v H' => v = .tup [] ∧ H' = H) noE := by
 intro us w hv hh
 obtain ⟨u, us', rfl, h1, h2⟩ := hv.cons_inv
 obtain rfl := h2.nil_inv
 obtain ⟨_, rfl⟩ := h1.nil_inv
 refine (hS w).mono ?_
 rintro e w' ⟨rfl, rfl⟩
 exact ⟨H, .refl _ _, hh, .tup [], .tup [] rfl (fun i x u hx hu => by simp at hx), rfl, rfl⟩
end Go.Vc
set_option linter.unusedVariables false
set_option linter.unusedSimpArgs false
namespace Go.Vc
open Go Go.Sh
end Go.Vc
set_option linter.unusedVariables false
set_option linter.unusedSimpArgs false
namespace Go.Vc
open Go
theorem Holds.reset_own {B H : Heap} {t size r : Nat} {p : Option (Nat × Nat)} {es : List (List AV)} {o o' : AObj} (h : Holds B [.own t size p es] H) (hr : B r = some o) : Holds (B.set r o') [.own t size p es] (H.set r o') := by
  obtain ⟨H1, h1, h2⟩ := h
  have h1 : H1 = B := h1
  subst h1
  refine ⟨_, rfl, ?_⟩
  rcases wH h2 with ⟨rfl, rfl, rfl⟩ | ⟨g, c, rfl, hg, rfl⟩
  · exact .nil rfl
  · have hne : g ≠ r := by rintro rfl; rw [hr] at hg; cases hg
    have e : (H1.set g (.row t size es c)).set r o' = (H1.set r o').set g (.row t size es c) := by
      funext k
      simp only [Heap.set]
      by_cases e1 : k = r
      · subst e1
        simp [Ne.symm hne]
      · by_cases e2 : k = g
        · subst e2; simp [hne]
        · simp [e1, e2]
    show Own _ t size es es.length (some (g, c)) _
    rw [e]
    exact .row g c (by rw [uS _ _ hne]; exact hg) rfl
end Go.Vc
namespace Go.Proofs
open Go.Shelf
def Tryz.mSort_ren : Go.Shelf.Ren := ⟨fun | 6 => 129 | 8 => 148 | 9 => 147 | 19 => 171 | 20 => 172 | 21 => 162 | 22 => 163 | 23 => 164 | 24 => 165 | 25 => 166 | 26 => 167 | 27 => 168 | 28 => 169 | 29 => 170 | 36 => 180 | 31 => 181 | 32 => 182 | 37 => 183 | 38 => 184 | 39 => 185 | 41 => 193 | n => n, fun | 27 => 23 | 29 => 9 | 3 => 3 | 32 => 208 | 26 => 23 | 0 => 0 | 44 => 233 | 46 => 260 | 4 => 4 | 36 => 273 | 35 => 272 | 41 => 277 | 5 => 5 | 9 => 9 | 53 => 302 | 57 => 306 | 63 => 316 | 64 => 84 | n => n, fun | n => n⟩
theorem Tryz.mSort : Go.Proofs.SlLaysM.n6 Tryz.prog Tryz.mSort_ren := {
 mixed := by kernel_rfl
 f6 := ⟨Tryz.f129.name, by decide, Tryz.func129.trans (congrArg some (by kernel_rfl))⟩
 f8 := Tryz.func148.trans (congrArg some (by kernel_rfl))
 f9 := ⟨Tryz.f147.name, by decide, Tryz.func147.trans (congrArg some (by kernel_rfl))⟩
 f19 := Tryz.func171.trans (congrArg some (by kernel_rfl))
 f20 := Tryz.func172.trans (congrArg some (by kernel_rfl))
 f21 := ⟨Tryz.f162.name, by decide, Tryz.func162.trans (congrArg some (by kernel_rfl))⟩
 f22 := ⟨Tryz.f163.name, by decide, Tryz.func163.trans (congrArg some (by kernel_rfl))⟩
 f23 := ⟨Tryz.f164.name, by decide, Tryz.func164.trans (congrArg some (by kernel_rfl))⟩
 f24 := ⟨Tryz.f165.name, by decide, Tryz.func165.trans (congrArg some (by kernel_rfl))⟩
 f25 := ⟨Tryz.f166.name, by decide, Tryz.func166.trans (congrArg some (by kernel_rfl))⟩
 f26 := ⟨Tryz.f167.name, by decide, Tryz.func167.trans (congrArg some (by kernel_rfl))⟩
 f27 := ⟨Tryz.f168.name, by decide, Tryz.func168.trans (congrArg some (by kernel_rfl))⟩
 f28 := ⟨Tryz.f169.name, by decide, Tryz.func169.trans (congrArg some (by kernel_rfl))⟩
 f29 := ⟨Tryz.f170.name, by decide, Tryz.func170.trans (congrArg some (by kernel_rfl))⟩
 f31 := Tryz.func181.trans (congrArg some (by kernel_rfl))
 f32 := Tryz.func182.trans (congrArg some (by kernel_rfl))
 f36 := ⟨Tryz.f180.name, by decide, Tryz.func180.trans (congrArg some (by kernel_rfl))⟩
 f37 := ⟨Tryz.f183.name, by decide, Tryz.func183.trans (congrArg some (by kernel_rfl))⟩
 f38 := ⟨Tryz.f184.name, by decide, Tryz.func184.trans (congrArg some (by kernel_rfl))⟩
 f39 := ⟨Tryz.f185.name, by decide, Tryz.func185.trans (congrArg some (by kernel_rfl))⟩
 f41 := ⟨Tryz.f193.name, by decide, Tryz.func193.trans (congrArg some (by kernel_rfl))⟩
 t0 := Tryz.underlying0
 a0 := Tryz.isAgg0
 z0 := Tryz.sizeOf0
 v0 := Tryz.zeroValue0
 t3 := Tryz.underlying3
 a3 := Tryz.isAgg3
 z3 := Tryz.sizeOf3
 v3 := Tryz.zeroValue3
 t4 := Tryz.underlying4
 a4 := Tryz.isAgg4
 z4 := Tryz.sizeOf4
 v4 := Tryz.zeroValue4
 t5 := Tryz.underlying5
 a5 := Tryz.isAgg5
 z5 := Tryz.sizeOf5
 v5 := Tryz.zeroValue5
 t9 := Tryz.underlying9
 a9 := Tryz.isAgg9
 z9 := Tryz.sizeOf9
 v9 := Tryz.zeroValue9
 t26 := Tryz.underlying23
 a26 := Tryz.isAgg23
 z26 := Tryz.sizeOf23
 v26 := Tryz.zeroValue23
 t27 := Tryz.underlying23
 a27 := Tryz.isAgg23
 z27 := Tryz.sizeOf23
 v27 := Tryz.zeroValue23
 t29 := Tryz.underlying9
 a29 := Tryz.isAgg9
 z29 := Tryz.sizeOf9
 v29 := Tryz.zeroValue9
 t32 := Tryz.underlying208
 a32 := Tryz.isAgg208
 z32 := Tryz.sizeOf208
 v32 := Tryz.zeroValue208
 t35 := Tryz.underlying272
 a35 := Tryz.isAgg272
 z35 := Tryz.sizeOf272
 v35 := Tryz.zeroValue272
 t36 := Tryz.underlying273
 a36 := Tryz.isAgg273
 z36 := Tryz.sizeOf273
 v36 := Tryz.zeroValue273
 t41 := Tryz.underlying277
 a41 := Tryz.isAgg277
 z41 := Tryz.sizeOf277
 v41 := Tryz.zeroValue277
 t44 := Tryz.underlying233
 a44 := Tryz.isAgg233
 z44 := Tryz.sizeOf233
 v44 := Tryz.zeroValue233
 t46 := Tryz.underlying260
 a46 := Tryz.isAgg260
 z46 := Tryz.sizeOf260
 v46 := Tryz.zeroValue260
 t53 := Tryz.underlying302
 a53 := Tryz.isAgg302
 z53 := Tryz.sizeOf302
 v53 := Tryz.zeroValue302
 t57 := Tryz.underlying306
 a57 := Tryz.isAgg306
 z57 := Tryz.sizeOf306
 v57 := Tryz.zeroValue306
 t63 := Tryz.underlying316
 a63 := Tryz.isAgg316
 z63 := Tryz.sizeOf316
 v63 := Tryz.zeroValue316
 t64 := Tryz.underlying84
 a64 := Tryz.isAgg84
 z64 := Tryz.sizeOf84
 v64 := Tryz.zeroValue84 }
end Go.Proofs
set_option linter.unusedVariables false
set_option linter.unusedSimpArgs false
set_option maxRecDepth 20000
set_option maxHeartbeats 8000000
namespace Go.Proofs.YtgmpeddopfnioaaGreatDoor
open Go Go.Vc Go.Sh
theorem WpO.growNil {P : Program} {o : Oper} {env : Env} {H H0 : Heap} {K : AV → Heap → Prop} {E : List PanicEntry → Heap → Prop} {rs : List Res} {x y : Operand} {t tn e : TypeId} {size bytes n : Nat} {kn : IntKind} (ho : o.op = .call { callee := .builtin .append, args := #[x, y], argTypes := #[t, tn] }) (ek : ElemOk P t e size bytes) (htn : P.underlying tn = some (.int kn)) (hx : env.ev x = .own 0 none) (hy : env.ev y = iA n)
    (h0 : 0 < n) (hb : n * bytes ≤ 140737488355328) (hn : n ≤ 140737488355328) (hh : Holds H0 rs H) (hk : ∀ g c H', n ≤ c → Holds H0 (.own e size (some (g, c)) [] :: rs) H' → K (.buf g n c) H') : Go.Vc.WpO P o env H K E := by
  apply vQ (by simp [noDefer, ho])
  intro a w ⟨hr, hH⟩
  rw [ho] at hr
  have e0 := hr x (by simp [Op.operands, Call.operands])
  have e1 := hr y (by simp [Op.operands, Call.operands])
  rw [hx] at e0; rw [hy] at e1
  obtain ⟨_, e0⟩ := e0.nil_inv
  have e1 := e1.lit_inv
  have hu := underlying_of_elemT ek.elem
  obtain ⟨i, z, hi, hz, hs, hby, hzs⟩ := ek.info
  have hm : n ≤ maxLen := by simp only [maxLen]; omega
  have hfit := growslice_fits (need := n) (old := 0) (bytes := i.bytes) h0 (by rw [hby]; exact hb)
  have hrun := Go.Lib.run_append_grow_zeros (P := P) w t tn o.type e i z .i64 kn hu htn hi hz none 0 0 [] (by simp [Builtin.firstCells]) n h0 (by rw [hs]; exact ek.pos) (by omega) (by omega) (by rw [hby]; omega) (by rw [Nat.zero_add]; exact hfit)
  have hc1 := grownCap_ge w (0 + n) 0 e
  have hc2 := grownCap_le_maxLen w (0 + n) 0 e (by rw [Nat.zero_add]; exact hm)
  generalize hcap : grownCap w (0 + n) 0 e = c at hrun hc1 hc2
  have hg : H w.heap.size = none := HeapR.fresh hH (Nat.le_refl _)
  have hH2 := HeapR.drew hH
  generalize hcells : (#[] ++ Builtin.zeroCells z.cells n ++ Builtin.zeroCells z.cells (c - (0 + n)) : Array Value) = cur at hrun
  have hcs : cur.size = c * size := by
    rw [← hcells]
    simp only [Array.size_append, size_zeroCells, hzs]
    rw [show (#[] : Array Value).size = 0 from rfl, Nat.zero_add, ← Nat.add_mul]
    congr 1; omega
  refine ⟨.buf w.heap.size n c, .slice (some ⟨w.heap.size, 0, none⟩) n c, H.set w.heap.size (.row e size [] c), w.drew.alloc (.cells cur e), ?_, ?_, ?_, ?_, ?_⟩
  · have h3 : (Builtin.append_ #[t, tn] o.type #[.slice none 0 0, .int .i64 n]).run P w = .ok (.slice (some ⟨w.heap.size, 0, none⟩) n c) (w.drew.alloc (.cells cur e)) := by
      have := hrun
      rw [Nat.zero_add] at this
      simpa using this
    unfold execOp
    rw [ho]
    simp [resolve, e0, e1, Go.invoke, builtin, h3, Result.andThen]
  · exact (Evol.drew H w).trans (Evol.alloc (w := w.drew) _ _)
  · exact HeapR.alloc (w := w.drew) hH2 _ _ ⟨cur, heap_alloc_new _ _, hcs, Nat.zero_le _, hc2, (fun e he => by cases he), by simpa using VRs.nil⟩
  · exact .buf _ _ _
  · exact hk _ _ _ (by omega) (hh.newRow hg)
attribute [local irreducible] WpC WpOps WpPi Go.Vc.WpO Exact TCall VEnds Sh.loopS
theorem ekGK : ElemOk Tryz.prog 228 255 9 88 := vV (by kernel_rfl)
theorem w_GrowK {H : Heap} {n : Int} (hn : 0 ≤ n ∧ n * 88 ≤ 140737488355328) : TCall Tryz.prog 177 [.own 0 none, iA n] H (fun v H' => ∃ p, v = .own ([] : List (List AV)).length p ∧ Vc.Own H 255 9 [] ([] : List (List AV)).length p H') noE := by
 obtain ⟨k, rfl⟩ : ∃ k : Nat, n = (k : Int) := ⟨n.toNat, by omega⟩
 refine TCall.body Tryz.func177 rfl rfl ?_
 refine uC ?_
 refine uA 1 rfl trivial ?_
 refine WpOps.nil ?_
 refine WpC.seq ?_
 refine uC ?_
 refine uA 2 rfl trivial ?_
 refine WpOps.nil ?_
 refine uF rfl (fun hb => ?_) (fun hb => ?_)
 ·exfalso
  have : (k : Int) < 0 := by simpa using hb
  omega
 refine WpC.skip ?_
 refine WpC.seq ?_
 refine uC ?_
 refine uA 2 rfl trivial ?_
 refine uB rfl rfl (Exact.capNil (e := 255) rfl rfl rfl) ?_
 refine uA 3 rfl (show -9223372036854775808 ≤ (0 : Int) - 0 ∧ (0 : Int) - 0 ≤ 9223372036854775807 from ⟨by omega, by omega⟩) ?_
 refine uA 1 rfl (show -9223372036854775808 ≤ (k : Int) - (0 - 0) ∧ (k : Int) - (0 - 0) ≤ 9223372036854775807 from ⟨by omega, by omega⟩) ?_
 refine uN 14 (v := iA k) (congrArg (fun z => AV.lit (.int .i64 z)) (show (k : Int) - (0 - 0) = k by omega)) ?_
 refine uA 1 rfl trivial ?_
 refine WpOps.nil ?_
 refine uC ?_
 refine uA 2 rfl trivial ?_
 refine WpOps.nil ?_
 refine uF rfl (fun hb => ?_) (fun hb => ?_)
 ·have h0 : 0 < k := by
   have : (0 : Int) < (k : Int) := by simpa using hb
   omega
  have hH : Holds H [] H := rfl
  refine WpC.region ?_
  refine uA 2 rfl trivial ?_
  refine uB rfl rfl (Exact.capNil (e := 255) rfl rfl rfl) ?_
  refine uB rfl rfl (Exact.sliceNil (e := 255) (size := 9) rfl rfl rfl rfl rfl (by decide)) ?_
  refine uA 1 rfl trivial ?_
  refine uE rfl rfl (WpO.growNil (n := k) rfl ekGK rfl rfl rfl h0 (by omega) (by omega) hH fun g c H' hc hH => ?_)
  refine uA 2 rfl trivial ?_
  refine uB rfl rfl (wD (e := 255) (k := 0) (size := 9) rfl rfl rfl hc (Nat.zero_le _) rfl rfl (by decide)) ?_
  refine uA 1 rfl trivial ?_
  refine WpOps.nil ?_
  refine uC ?_
  refine uA 2 rfl trivial ?_
  refine WpOps.nil ?_
  refine WpC.ret ?_
  exact uH rfl rfl ⟨_, rfl, hH.one_inv⟩
 ·refine WpC.skip ?_
  refine uC ?_
  refine uA 2 rfl trivial ?_
  refine WpOps.nil ?_
  refine WpC.ret ?_
  exact uH rfl rfl ⟨none, rfl, Vc.Own.nil rfl⟩
theorem ekGS : ElemOk Tryz.prog 23 9 1 16 := vV (by kernel_rfl)
theorem w_GrowS {H : Heap} {n : Int} (hn : 0 ≤ n ∧ n * 16 ≤ 140737488355328) : TCall Tryz.prog 205 [.own 0 none, iA n] H (fun v H' => ∃ p, v = .own ([] : List (List AV)).length p ∧ Vc.Own H 9 1 [] ([] : List (List AV)).length p H') noE := by
 obtain ⟨k, rfl⟩ : ∃ k : Nat, n = (k : Int) := ⟨n.toNat, by omega⟩
 refine TCall.body Tryz.func205 rfl rfl ?_
 refine uC ?_
 refine uA 1 rfl trivial ?_
 refine WpOps.nil ?_
 refine WpC.seq ?_
 refine uC ?_
 refine uA 2 rfl trivial ?_
 refine WpOps.nil ?_
 refine uF rfl (fun hb => ?_) (fun hb => ?_)
 ·exfalso
  have : (k : Int) < 0 := by simpa using hb
  omega
 refine WpC.skip ?_
 refine WpC.seq ?_
 refine uC ?_
 refine uA 2 rfl trivial ?_
 refine uB rfl rfl (Exact.capNil (e := 9) rfl rfl rfl) ?_
 refine uA 3 rfl (show -9223372036854775808 ≤ (0 : Int) - 0 ∧ (0 : Int) - 0 ≤ 9223372036854775807 from ⟨by omega, by omega⟩) ?_
 refine uA 1 rfl (show -9223372036854775808 ≤ (k : Int) - (0 - 0) ∧ (k : Int) - (0 - 0) ≤ 9223372036854775807 from ⟨by omega, by omega⟩) ?_
 refine uN 14 (v := iA k) (congrArg (fun z => AV.lit (.int .i64 z)) (show (k : Int) - (0 - 0) = k by omega)) ?_
 refine uA 1 rfl trivial ?_
 refine WpOps.nil ?_
 refine uC ?_
 refine uA 2 rfl trivial ?_
 refine WpOps.nil ?_
 refine uF rfl (fun hb => ?_) (fun hb => ?_)
 ·have h0 : 0 < k := by
   have : (0 : Int) < (k : Int) := by simpa using hb
   omega
  have hH : Holds H [] H := rfl
  refine WpC.region ?_
  refine uA 2 rfl trivial ?_
  refine uB rfl rfl (Exact.capNil (e := 9) rfl rfl rfl) ?_
  refine uB rfl rfl (Exact.sliceNil (e := 9) (size := 1) rfl rfl rfl rfl rfl (by decide)) ?_
  refine uA 1 rfl trivial ?_
  refine uE rfl rfl (WpO.growNil (n := k) rfl ekGS rfl rfl rfl h0 (by omega) (by omega) hH fun g c H' hc hH => ?_)
  refine uA 2 rfl trivial ?_
  refine uB rfl rfl (wD (e := 9) (k := 0) (size := 1) rfl rfl rfl hc (Nat.zero_le _) rfl rfl (by decide)) ?_
  refine uA 1 rfl trivial ?_
  refine WpOps.nil ?_
  refine uC ?_
  refine uA 2 rfl trivial ?_
  refine WpOps.nil ?_
  refine WpC.ret ?_
  exact uH rfl rfl ⟨_, rfl, hH.one_inv⟩
 ·refine WpC.skip ?_
  refine uC ?_
  refine uA 2 rfl trivial ?_
  refine WpOps.nil ?_
  refine WpC.ret ?_
  exact uH rfl rfl ⟨none, rfl, Vc.Own.nil rfl⟩
def idxET (p : GTok → Bool) : Nat → List GTok → Int
 | _, [] => -1
 | k, y :: r => if p y = true then (k : Int) else idxET p (k + 1) r
theorem idxE_noneT (p : GTok → Bool) : ∀ (l : List GTok) (k : Nat), idxET p k l = -1 → l.filter (fun y => !p y) = l
 | [], _, _ => rfl
 | y :: r, k, h => by
  unfold idxET at h
  by_cases hp : p y = true
  ·rw [if_pos hp] at h; omega
  ·rw [if_neg hp] at h
   rw [List.filter_cons, idxE_noneT p r (k + 1) h]; simp [hp]
theorem idxE_someT (p : GTok → Bool) : ∀ (l : List GTok) (k : Nat), idxET p k l ≠ -1 → ∃ j, ∃ h : j < l.length, idxET p k l = ((k + j : Nat) : Int) ∧ p l[j] = true ∧ (l.take j).filter (fun y => !p y) = l.take j
 | [], _, h => (h rfl).elim
 | y :: r, k, h => by
  unfold idxET at h ⊢
  by_cases hp : p y = true
  ·rw [if_pos hp]; exact ⟨0, by simp, by simp, hp, rfl⟩
  ·rw [if_neg hp] at h ⊢
   obtain ⟨j, hj, e, h1, h2⟩ := idxE_someT p r (k + 1) h
   refine ⟨j + 1, by simpa using hj, by rw [e]; congr 1; omega, by simpa using h1, ?_⟩
   rw [List.take_succ_cons, List.filter_cons, h2]; simp [hp]
theorem idxE_dropT (p : GTok → Bool) (l : List GTok) (j : Nat) (h : j < l.length) : idxET p j (l.drop j) = if p l[j] = true then (j : Int) else idxET p (j + 1) (l.drop (j + 1)) := by
 rw [List.drop_eq_getElem_cons h]; rfl
theorem w_IndexFuncET {fd : Nat} {p : GTok → Bool} (he : enterable Tryz.prog fd = true) {H : Heap} {l : List GTok} (hd : ∀ H, ∀ y ∈ l, TCall Tryz.prog fd [.agg (cGTok y)] H (fun v H' => v = bA (p y) ∧ H' = H) noE) (hl : l.length ≤ 9223372036854775806) :
  TCall Tryz.prog 70 [.rows 6 (l.map cGTok), .clo (.func fd) [] []] H (fun v H' => v = iA (idxET p 0 l) ∧ H' = H) noE := by
 refine TCall.body Tryz.func70 rfl rfl ?_
 have hix : ∀ i, (h : i < l.length) → Sh.ix l (i : Int) = some l[i] := fun i h => by rw [Sh.ix_nat]; exact List.getElem?_eq_getElem h
 refine uC ?_
 refine uA 1 rfl trivial ?_
 refine WpOps.nil ?_
 refine WpC.seq ?_
 refine uC ?_
 refine uA 2 rfl trivial ?_
 refine uN 7 (len_map _ _) ?_
 refine uA 1 rfl trivial ?_
 refine WpOps.nil ?_
 refine WpC.block ?_
 refine WpC.loop (fun n env H' => ∃ (j : Nat), n = l.length - j ∧ j ≤ l.length ∧ knows env [(0, .rows 6 (l.map cGTok)), (1, .clo (.func fd) [] []), (7, iA l.length), (8, iA j)] ∧ idxET p j (l.drop j) = idxET p 0 l ∧ H' = H) _ ⟨0, rfl, Nat.zero_le _, ⟨rfl, rfl, rfl, rfl, trivial⟩, rfl, rfl⟩ ?_
 rintro n env H ⟨j, rfl, hj, hk, hv, rfl⟩
 rw [← hk.eq]
 refine uC ?_
 refine uA 1 rfl trivial ?_
 refine WpOps.nil ?_
 refine WpC.seq ?_
 refine uF rfl (fun hb => ?_) (fun hb => ?_)
 ·have hlt : j < l.length := by simpa using hb
  rw [idxE_dropT p l j hlt] at hv
  refine WpC.skip ?_
  refine WpC.seq ?_
  refine WpC.block ?_
  refine uC ?_
  refine uA 2 rfl trivial ?_
  refine WpOps.nil ?_
  refine uC ?_
  refine uA 3 rfl trivial ?_
  refine uB (v := .rop (cGTok l[j])) rfl rfl (uR cGTok (hix j hlt) rfl rfl rfl rfl (by kernel_rfl) (by decide)) ?_
  refine uB (v := .agg (cGTok l[j])) rfl rfl (uG rfl rfl rfl) ?_
  refine uB (v := bA (p l[j])) rfl rfl (vN rfl rfl he (forceL_eq _ _) (hd _ _ (List.getElem_mem _))) ?_
  refine WpOps.nil ?_
  refine uF rfl (fun hb2 => ?_) (fun hb2 => ?_)
  ·rw [if_pos hb2] at hv
   refine uC ?_
   refine uA 2 rfl trivial ?_
   refine WpOps.nil ?_
   refine WpC.ret ?_
   exact uH rfl rfl ⟨by rw [← hv], rfl⟩
  ·rw [if_neg (by rw [hb2]; simp)] at hv
   refine WpC.skip ?_
   refine WpC.region ?_
   refine uA 2 rfl (show -9223372036854775808 ≤ (j : Int) + 1 ∧ (j : Int) + 1 ≤ 9223372036854775807 from ⟨by omega, by omega⟩) ?_
   refine WpOps.nil ?_
   exact ⟨l.length - (j + 1), by omega, j + 1, rfl, by omega, ⟨rfl, rfl, rfl, rfl, trivial⟩, hv, rfl⟩
 ·have hge : j = l.length := by
   have : ¬ ((j : Int) < (l.length : Int)) := by simpa using hb
   omega
  rw [hge, List.drop_length] at hv
  refine WpC.exit ?_
  refine uC ?_
  refine uA 1 rfl trivial ?_
  refine WpOps.nil ?_
  refine WpC.ret ?_
  exact uH rfl rfl ⟨by rw [← hv]; rfl, rfl⟩
theorem w_DeleteFuncPT {fd : Nat} {p : GTok → Bool} (he : enterable Tryz.prog fd = true) {H1 H : Heap} {l : List GTok} {q : Option (Nat × Nat)} (hd : ∀ H, ∀ y ∈ l, TCall Tryz.prog fd [.agg (cGTok y)] H (fun v H' => v = bA (p y) ∧ H' = H) noE) (hl : l.length ≤ 9223372036854775806) (hH : Holds H1 [.own 50 6 q (l.map cGTok)] H) :
    TCall Tryz.prog 35 [.own (l.map cGTok).length q, .clo (.func fd) [] []] H (fun v H' => v = .own ((l.filter fun y => !p y).map cGTok).length q ∧ Holds H1 [.own 50 6 q ((l.filter fun y => !p y).map cGTok)] H') noE := by
  refine TCall.body Tryz.func35 rfl rfl ?_
  refine uC ?_
  refine uA 1 rfl trivial ?_
  refine WpOps.nil ?_
  refine uC ?_
  refine uA 2 rfl trivial ?_
  refine uB (v := iA (idxET p 0 l)) rfl rfl (Exact.peek (t := 8) (i := 0) hH rfl rfl (Exact.call rfl rfl rfl (w_IndexFuncET he hd hl))) ?_
  refine uA 1 rfl trivial ?_
  refine WpOps.nil ?_
  refine WpC.seq ?_
  refine uC ?_
  refine uA 2 rfl trivial ?_
  refine WpOps.nil ?_
  refine uF rfl (fun hb => ?_) (fun hb => ?_)
  · have hm : idxET p 0 l = -1 := by simpa using hb
    refine uC ?_
    refine uA 2 rfl trivial ?_
    refine WpOps.nil ?_
    refine WpC.ret ?_
    exact uH rfl rfl (by rw [idxE_noneT p l 0 hm]; exact ⟨rfl, hH⟩)
  · have hm : idxET p 0 l ≠ -1 := by simpa using hb
    obtain ⟨k, hk, e1, hpk, hf⟩ := idxE_someT p l 0 hm
    rw [Nat.zero_add] at e1
    have hne : l.map cGTok ≠ [] := fun e => by have := congrArg List.length e; simp at this; subst this; exact absurd hk (Nat.not_lt_zero _)
    obtain ⟨g, c, rfl⟩ := hH.grown (i := 0) rfl hne
    refine WpC.at 5 (v := iA k) (by rw [← e1]; rfl) ?_
    refine WpC.skip ?_
    refine WpC.seq ?_
    refine uC ?_
    refine uA 3 rfl (show -9223372036854775808 ≤ (k : Int) + 1 ∧ (k : Int) + 1 ≤ 9223372036854775807 from ⟨by omega, by omega⟩) ?_
    refine WpOps.nil ?_
    refine WpC.block ?_
    have hfk : (l.take (k + 1)).filter (fun y => !p y) = l.take k := by
      rw [List.take_add_one, List.getElem?_eq_getElem hk, List.filter_append, hf, Option.toList_some, List.filter_cons, hpk]; simp
    refine WpC.loop (fun n env H => ∃ (j i : Nat) (R : List GTok), n = l.length - j ∧ j ≤ l.length ∧ i < j ∧ R.length = l.length ∧ R.take i = (l.take j).filter (fun y => !p y) ∧ R.drop j = l.drop j ∧ knows env [(0, .own (R.map cGTok).length (some (g, c))), (1, .clo (.func fd) [] []), (5, iA i), (6, iA j)] ∧ Holds H1 [.own 50 6 (some (g, c)) (R.map cGTok)] H) _ ⟨k + 1, k, l, rfl, by omega, by omega, rfl, hfk.symm, rfl, ⟨rfl, rfl, rfl, rfl, trivial⟩, hH⟩ ?_
    clear hH
    rintro n env H ⟨j, i, R, rfl, hj, hij, hR, h1, h2, hk2, hH⟩
    rw [← hk2.eq]
    refine WpC.seq ?_
    refine uC ?_
    refine uA 3 rfl trivial ?_
    refine uN 18 (len_map _ _) ?_
    refine uA 1 rfl trivial ?_
    refine WpOps.nil ?_
    refine uF rfl (fun hb => ?_) (fun hb => ?_)
    · have hlt : j < R.length := by simpa using hb
      have hlt2 : j < l.length := by omega
      have hixR : ∀ i, (h : i < R.length) → Sh.ix R (i : Int) = some R[i] := fun i h => by rw [Sh.ix_nat]; exact List.getElem?_eq_getElem h
      have hRj : R[j] = l[j] := by
        have := congrArg (fun z => z[0]?) h2
        simp only [List.getElem?_drop, Nat.add_zero, List.getElem?_eq_getElem hlt, List.getElem?_eq_getElem hlt2] at this
        injection this
      refine WpC.skip ?_
      refine WpC.seq ?_
      refine WpC.block ?_
      refine uC ?_
      refine uA 2 rfl trivial ?_
      refine uB rfl rfl (vP (size := 6) cGTok (hixR j hlt) rfl rfl rfl rfl (by kernel_rfl) (by decide)) ?_
      refine uB (v := .agg (cGTok R[j])) rfl rfl (Exact.ldo (off := 0) (i := 0) cGTok (hixR j hlt) hH rfl rfl rfl (by decide) rfl) ?_
      refine uE rfl rfl (vC (z := cGTok (GTok.mk (0 : Int) ([] : List UInt8) (0 : Int) (0 : Int) (0 : Int) false)) rfl rfl hH fun g1 H' hH => ?_)
      refine uE rfl rfl (uQ (cs' := (cGTok R[j])) (v := (AV.agg (cGTok R[j]))) rfl rfl hH (i := 0) rfl rfl rfl rfl rfl rfl rfl fun H' hH => ?_)
      refine WpOps.nil ?_
      have hnext : (l.take (j + 1)).filter (fun y => !p y) = (l.take j).filter (fun y => !p y) ++ (if p l[j] = true then [] else [l[j]]) := by
        rw [List.take_add_one, List.getElem?_eq_getElem hlt2, List.filter_append, Option.toList_some, List.filter_cons]
        cases p l[j] <;> rfl
      refine uC ?_
      refine uA 1 rfl trivial ?_
      refine uB (v := .agg (cGTok R[j])) rfl rfl (Exact.load rfl rfl (hH.cell (i := 0) rfl) rfl rfl) ?_
      refine uB (v := bA (p R[j])) rfl rfl (vN rfl rfl he (forceL_eq _ _) (hd _ _ (by rw [hRj]; exact List.getElem_mem _))) ?_
      refine uA 1 rfl trivial ?_
      refine WpOps.nil ?_
      refine uF rfl (fun hb2 => ?_) (fun hb2 => ?_)
      · have hp : p l[j] = false := by rw [← hRj]; simpa using hb2
        have hlti : i < R.length := by omega
        refine uC ?_
        refine uA 2 rfl trivial ?_
        refine uB (v := .agg (cGTok R[j])) rfl rfl (Exact.load rfl rfl (hH.cell (i := 0) rfl) rfl rfl) ?_
        refine uB rfl rfl (vP (size := 6) cGTok (hixR i hlti) rfl rfl rfl rfl (by kernel_rfl) (by decide)) ?_
        refine uE rfl rfl (wA (off := 0) (i := 1) cGTok (y' := R[j]) (v := .agg (cGTok R[j])) (hixR i hlti) hH rfl rfl rfl rfl rfl rfl rfl rfl rfl fun H' hH => ?_)
        refine uN 0 (v := .own ((R.set i R[j]).map cGTok).length (some (g, c))) (by simp [Env.of, own_set]; rfl) ?_
        refine WpOps.nil ?_
        refine WpC.region ?_
        refine uA 3 rfl (show -9223372036854775808 ≤ (i : Int) + 1 ∧ (i : Int) + 1 ≤ 9223372036854775807 from ⟨by omega, by omega⟩) ?_
        refine WpOps.nil ?_
        refine uP (i := 0) hH rfl (fun H' hH => ?_)
        refine WpC.region ?_
        refine uA 3 rfl (show -9223372036854775808 ≤ (j : Int) + 1 ∧ (j : Int) + 1 ≤ 9223372036854775807 from ⟨by omega, by omega⟩) ?_
        refine WpOps.nil ?_
        refine ⟨l.length - (j + 1), by omega, j + 1, i + 1, R.set i R[j], rfl, by omega, by omega, by simpa using hR, ?_, ?_, ⟨rfl, rfl, rfl, rfl, trivial⟩, hH⟩
        · rw [hnext, hp, ← h1, List.take_add_one, List.getElem?_set_self hlti, List.take_set_of_le (Nat.le_refl _), hRj]; rfl
        · rw [List.drop_set_of_lt (by omega), ← List.drop_drop, h2, List.drop_drop]
      · have hp : p l[j] = true := by rw [← hRj]; simpa using hb2
        refine WpC.skip ?_
        refine uP (i := 0) hH rfl (fun H' hH => ?_)
        refine WpC.region ?_
        refine uA 3 rfl (show -9223372036854775808 ≤ (j : Int) + 1 ∧ (j : Int) + 1 ≤ 9223372036854775807 from ⟨by omega, by omega⟩) ?_
        refine WpOps.nil ?_
        refine ⟨l.length - (j + 1), by omega, j + 1, i, R, rfl, by omega, by omega, hR, ?_, ?_, ⟨rfl, rfl, rfl, rfl, trivial⟩, hH⟩
        · rw [hnext, hp, h1]; simp
        · rw [← List.drop_drop, h2, List.drop_drop]
    · have hge : j = l.length := by
        have : ¬ ((j : Int) < (R.length : Int)) := by simpa using hb
        omega
      rw [hge, List.take_length] at h1
      have hrow := hH.row (i := 0) rfl
      refine WpC.exit ?_
      refine uC ?_
      refine uA 2 rfl trivial ?_
      refine uB rfl rfl (Exact.slice_rest (k := i) (size := 6) rfl rfl rfl hrow (Nat.le_refl _) (by rw [List.length_map]; omega) rfl rfl (by decide)) ?_
      refine uE rfl rfl (WpO.clearCut (k := i) (size := 6) (m := (R.map cGTok).length - i) rfl rfl (by kernel_rfl) (by decide) rfl hrow (fun h => if_pos h) (by rw [List.length_map]; omega) (fun hcap => ?_))
      refine WpOps.nil ?_
      refine uC ?_
      refine uA 2 rfl trivial ?_
      refine uB rfl rfl (wD (k := i) (size := 6) rfl rfl rfl hcap (by rw [List.length_map]; omega) rfl rfl (by decide)) ?_
      refine uA 1 rfl trivial ?_
      refine WpOps.nil ?_
      refine WpC.ret ?_
      have hi2 : ((R.map cGTok).take i) = (l.filter fun y => !p y).map cGTok := by rw [← List.map_take, h1]
      have hi3 : i = ((l.filter fun y => !p y).map cGTok).length := by rw [← hi2, List.length_take, List.length_map]; omega
      obtain ⟨H2, e2, own2⟩ := hH
      have e2 : H2 = H1 := e2
      subst e2
      have hr2 := Own.row_inv own2 rfl
      obtain ⟨hn2, _, rfl⟩ := hr2
      refine uH rfl rfl ⟨by rw [← hi3], ?_⟩
      rw [vT, hi2]
      exact ⟨_, rfl, Vc.Own.row g c hn2 rfl⟩
theorem w_DeleteFuncET {fd : Nat} {f : GTok → Option Bool} (he : enterable Tryz.prog fd = true) (hd : ∀ H y b, f y = some b → TCall Tryz.prog fd [.agg (cGTok y)] H (fun v H' => v = bA b ∧ H' = H) noE) {H1 H : Heap} {l r : List GTok} {q : Option (Nat × Nat)} (hr : Sh.delF f l = some r) (hl : l.length ≤ 9223372036854775806) (hH : Holds H1 [.own 50 6 q (l.map cGTok)] H) :
  TCall Tryz.prog 35 [.own (l.map cGTok).length q, .clo (.func fd) [] []] H (fun v H' => v = .own (r.map cGTok).length q ∧ Holds H1 [.own 50 6 q (r.map cGTok)] H') noE := by
 obtain ⟨h1, rfl⟩ := Sh.delF_some hr
 exact w_DeleteFuncPT he (fun H y hy => hd H y _ (h1 y hy)) hl hH
def idxEK (p : GExpand_token → Bool) : Nat → List GExpand_token → Int
 | _, [] => -1
 | k, y :: r => if p y = true then (k : Int) else idxEK p (k + 1) r
theorem idxE_noneK (p : GExpand_token → Bool) : ∀ (l : List GExpand_token) (k : Nat), idxEK p k l = -1 → l.filter (fun y => !p y) = l
 | [], _, _ => rfl
 | y :: r, k, h => by
  unfold idxEK at h
  by_cases hp : p y = true
  ·rw [if_pos hp] at h; omega
  ·rw [if_neg hp] at h
   rw [List.filter_cons, idxE_noneK p r (k + 1) h]; simp [hp]
theorem idxE_someK (p : GExpand_token → Bool) : ∀ (l : List GExpand_token) (k : Nat), idxEK p k l ≠ -1 → ∃ j, ∃ h : j < l.length, idxEK p k l = ((k + j : Nat) : Int) ∧ p l[j] = true ∧ (l.take j).filter (fun y => !p y) = l.take j
 | [], _, h => (h rfl).elim
 | y :: r, k, h => by
  unfold idxEK at h ⊢
  by_cases hp : p y = true
  ·rw [if_pos hp]; exact ⟨0, by simp, by simp, hp, rfl⟩
  ·rw [if_neg hp] at h ⊢
   obtain ⟨j, hj, e, h1, h2⟩ := idxE_someK p r (k + 1) h
   refine ⟨j + 1, by simpa using hj, by rw [e]; congr 1; omega, by simpa using h1, ?_⟩
   rw [List.take_succ_cons, List.filter_cons, h2]; simp [hp]
theorem idxE_dropK (p : GExpand_token → Bool) (l : List GExpand_token) (j : Nat) (h : j < l.length) : idxEK p j (l.drop j) = if p l[j] = true then (j : Int) else idxEK p (j + 1) (l.drop (j + 1)) := by
 rw [List.drop_eq_getElem_cons h]; rfl
theorem w_IndexFuncEK {fd : Nat} {p : GExpand_token → Bool} (he : enterable Tryz.prog fd = true) {H : Heap} {l : List GExpand_token} (hd : ∀ H, ∀ y ∈ l, TCall Tryz.prog fd [.agg (cGExpand_token y)] H (fun v H' => v = bA (p y) ∧ H' = H) noE) (hl : l.length ≤ 9223372036854775806) :
  TCall Tryz.prog 200 [.rows 9 (l.map cGExpand_token), .clo (.func fd) [] []] H (fun v H' => v = iA (idxEK p 0 l) ∧ H' = H) noE := by
 refine TCall.body Tryz.func200 rfl rfl ?_
 have hix : ∀ i, (h : i < l.length) → Sh.ix l (i : Int) = some l[i] := fun i h => by rw [Sh.ix_nat]; exact List.getElem?_eq_getElem h
 refine uC ?_
 refine uA 1 rfl trivial ?_
 refine WpOps.nil ?_
 refine WpC.seq ?_
 refine uC ?_
 refine uA 2 rfl trivial ?_
 refine uN 7 (len_map _ _) ?_
 refine uA 1 rfl trivial ?_
 refine WpOps.nil ?_
 refine WpC.block ?_
 refine WpC.loop (fun n env H' => ∃ (j : Nat), n = l.length - j ∧ j ≤ l.length ∧ knows env [(0, .rows 9 (l.map cGExpand_token)), (1, .clo (.func fd) [] []), (7, iA l.length), (8, iA j)] ∧ idxEK p j (l.drop j) = idxEK p 0 l ∧ H' = H) _ ⟨0, rfl, Nat.zero_le _, ⟨rfl, rfl, rfl, rfl, trivial⟩, rfl, rfl⟩ ?_
 rintro n env H ⟨j, rfl, hj, hk, hv, rfl⟩
 rw [← hk.eq]
 refine uC ?_
 refine uA 1 rfl trivial ?_
 refine WpOps.nil ?_
 refine WpC.seq ?_
 refine uF rfl (fun hb => ?_) (fun hb => ?_)
 ·have hlt : j < l.length := by simpa using hb
  rw [idxE_dropK p l j hlt] at hv
  refine WpC.skip ?_
  refine WpC.seq ?_
  refine WpC.block ?_
  refine uC ?_
  refine uA 2 rfl trivial ?_
  refine WpOps.nil ?_
  refine uC ?_
  refine uA 3 rfl trivial ?_
  refine uB (v := .rop (cGExpand_token l[j])) rfl rfl (uR cGExpand_token (hix j hlt) rfl rfl rfl rfl (by kernel_rfl) (by decide)) ?_
  refine uB (v := .agg (cGExpand_token l[j])) rfl rfl (uG rfl rfl rfl) ?_
  refine uB (v := bA (p l[j])) rfl rfl (vN rfl rfl he (forceL_eq _ _) (hd _ _ (List.getElem_mem _))) ?_
  refine WpOps.nil ?_
  refine uF rfl (fun hb2 => ?_) (fun hb2 => ?_)
  ·rw [if_pos hb2] at hv
   refine uC ?_
   refine uA 2 rfl trivial ?_
   refine WpOps.nil ?_
   refine WpC.ret ?_
   exact uH rfl rfl ⟨by rw [← hv], rfl⟩
  ·rw [if_neg (by rw [hb2]; simp)] at hv
   refine WpC.skip ?_
   refine WpC.region ?_
   refine uA 2 rfl (show -9223372036854775808 ≤ (j : Int) + 1 ∧ (j : Int) + 1 ≤ 9223372036854775807 from ⟨by omega, by omega⟩) ?_
   refine WpOps.nil ?_
   exact ⟨l.length - (j + 1), by omega, j + 1, rfl, by omega, ⟨rfl, rfl, rfl, rfl, trivial⟩, hv, rfl⟩
 ·have hge : j = l.length := by
   have : ¬ ((j : Int) < (l.length : Int)) := by simpa using hb
   omega
  rw [hge, List.drop_length] at hv
  refine WpC.exit ?_
  refine uC ?_
  refine uA 1 rfl trivial ?_
  refine WpOps.nil ?_
  refine WpC.ret ?_
  exact uH rfl rfl ⟨by rw [← hv]; rfl, rfl⟩
theorem w_DeleteFuncPK {fd : Nat} {p : GExpand_token → Bool} (he : enterable Tryz.prog fd = true) {H1 H : Heap} {l : List GExpand_token} {q : Option (Nat × Nat)} (hd : ∀ H, ∀ y ∈ l, TCall Tryz.prog fd [.agg (cGExpand_token y)] H (fun v H' => v = bA (p y) ∧ H' = H) noE) (hl : l.length ≤ 9223372036854775806) (hH : Holds H1 [.own 255 9 q (l.map cGExpand_token)] H) :
    TCall Tryz.prog 189 [.own (l.map cGExpand_token).length q, .clo (.func fd) [] []] H (fun v H' => v = .own ((l.filter fun y => !p y).map cGExpand_token).length q ∧ Holds H1 [.own 255 9 q ((l.filter fun y => !p y).map cGExpand_token)] H') noE := by
  refine TCall.body Tryz.func189 rfl rfl ?_
  refine uC ?_
  refine uA 1 rfl trivial ?_
  refine WpOps.nil ?_
  refine uC ?_
  refine uA 2 rfl trivial ?_
  refine uB (v := iA (idxEK p 0 l)) rfl rfl (Exact.peek (t := 8) (i := 0) hH rfl rfl (Exact.call rfl rfl rfl (w_IndexFuncEK he hd hl))) ?_
  refine uA 1 rfl trivial ?_
  refine WpOps.nil ?_
  refine WpC.seq ?_
  refine uC ?_
  refine uA 2 rfl trivial ?_
  refine WpOps.nil ?_
  refine uF rfl (fun hb => ?_) (fun hb => ?_)
  · have hm : idxEK p 0 l = -1 := by simpa using hb
    refine uC ?_
    refine uA 2 rfl trivial ?_
    refine WpOps.nil ?_
    refine WpC.ret ?_
    exact uH rfl rfl (by rw [idxE_noneK p l 0 hm]; exact ⟨rfl, hH⟩)
  · have hm : idxEK p 0 l ≠ -1 := by simpa using hb
    obtain ⟨k, hk, e1, hpk, hf⟩ := idxE_someK p l 0 hm
    rw [Nat.zero_add] at e1
    have hne : l.map cGExpand_token ≠ [] := fun e => by have := congrArg List.length e; simp at this; subst this; exact absurd hk (Nat.not_lt_zero _)
    obtain ⟨g, c, rfl⟩ := hH.grown (i := 0) rfl hne
    refine WpC.at 5 (v := iA k) (by rw [← e1]; rfl) ?_
    refine WpC.skip ?_
    refine WpC.seq ?_
    refine uC ?_
    refine uA 3 rfl (show -9223372036854775808 ≤ (k : Int) + 1 ∧ (k : Int) + 1 ≤ 9223372036854775807 from ⟨by omega, by omega⟩) ?_
    refine WpOps.nil ?_
    refine WpC.block ?_
    have hfk : (l.take (k + 1)).filter (fun y => !p y) = l.take k := by
      rw [List.take_add_one, List.getElem?_eq_getElem hk, List.filter_append, hf, Option.toList_some, List.filter_cons, hpk]; simp
    refine WpC.loop (fun n env H => ∃ (j i : Nat) (R : List GExpand_token), n = l.length - j ∧ j ≤ l.length ∧ i < j ∧ R.length = l.length ∧ R.take i = (l.take j).filter (fun y => !p y) ∧ R.drop j = l.drop j ∧ knows env [(0, .own (R.map cGExpand_token).length (some (g, c))), (1, .clo (.func fd) [] []), (5, iA i), (6, iA j)] ∧ Holds H1 [.own 255 9 (some (g, c)) (R.map cGExpand_token)] H) _ ⟨k + 1, k, l, rfl, by omega, by omega, rfl, hfk.symm, rfl, ⟨rfl, rfl, rfl, rfl, trivial⟩, hH⟩ ?_
    clear hH
    rintro n env H ⟨j, i, R, rfl, hj, hij, hR, h1, h2, hk2, hH⟩
    rw [← hk2.eq]
    refine WpC.seq ?_
    refine uC ?_
    refine uA 3 rfl trivial ?_
    refine uN 18 (len_map _ _) ?_
    refine uA 1 rfl trivial ?_
    refine WpOps.nil ?_
    refine uF rfl (fun hb => ?_) (fun hb => ?_)
    · have hlt : j < R.length := by simpa using hb
      have hlt2 : j < l.length := by omega
      have hixR : ∀ i, (h : i < R.length) → Sh.ix R (i : Int) = some R[i] := fun i h => by rw [Sh.ix_nat]; exact List.getElem?_eq_getElem h
      have hRj : R[j] = l[j] := by
        have := congrArg (fun z => z[0]?) h2
        simp only [List.getElem?_drop, Nat.add_zero, List.getElem?_eq_getElem hlt, List.getElem?_eq_getElem hlt2] at this
        injection this
      refine WpC.skip ?_
      refine WpC.seq ?_
      refine WpC.block ?_
      refine uC ?_
      refine uA 2 rfl trivial ?_
      refine uB rfl rfl (vP (size := 9) cGExpand_token (hixR j hlt) rfl rfl rfl rfl (by kernel_rfl) (by decide)) ?_
      refine uB (v := .agg (cGExpand_token R[j])) rfl rfl (Exact.ldo (off := 0) (i := 0) cGExpand_token (hixR j hlt) hH rfl rfl rfl (by decide) rfl) ?_
      refine uE rfl rfl (vK (z' := cGExpand_token (GExpand_token.mk (GTok.mk (0 : Int) ([] : List UInt8) (0 : Int) (0 : Int) (0 : Int) false) ([] : List (List UInt8)) false false)) rfl rfl (.cons (.refl _) (.cons (.refl _) (.cons (.refl _) (.cons (.refl _) (.cons (.refl _) (.cons (.refl _) (.cons (Sub.nil _) (.cons (.refl _) (.cons (.refl _) .nil))))))))) hH fun g1 H' hH => ?_)
      refine uE rfl rfl (uQ (cs' := (cGExpand_token R[j])) (v := (AV.agg (cGExpand_token R[j]))) rfl rfl hH (i := 0) rfl rfl rfl rfl rfl rfl rfl fun H' hH => ?_)
      refine WpOps.nil ?_
      have hnext : (l.take (j + 1)).filter (fun y => !p y) = (l.take j).filter (fun y => !p y) ++ (if p l[j] = true then [] else [l[j]]) := by
        rw [List.take_add_one, List.getElem?_eq_getElem hlt2, List.filter_append, Option.toList_some, List.filter_cons]
        cases p l[j] <;> rfl
      refine uC ?_
      refine uA 1 rfl trivial ?_
      refine uB (v := .agg (cGExpand_token R[j])) rfl rfl (Exact.load rfl rfl (hH.cell (i := 0) rfl) rfl rfl) ?_
      refine uB (v := bA (p R[j])) rfl rfl (vN rfl rfl he (forceL_eq _ _) (hd _ _ (by rw [hRj]; exact List.getElem_mem _))) ?_
      refine uA 1 rfl trivial ?_
      refine WpOps.nil ?_
      refine uF rfl (fun hb2 => ?_) (fun hb2 => ?_)
      · have hp : p l[j] = false := by rw [← hRj]; simpa using hb2
        have hlti : i < R.length := by omega
        refine uC ?_
        refine uA 2 rfl trivial ?_
        refine uB (v := .agg (cGExpand_token R[j])) rfl rfl (Exact.load rfl rfl (hH.cell (i := 0) rfl) rfl rfl) ?_
        refine uB rfl rfl (vP (size := 9) cGExpand_token (hixR i hlti) rfl rfl rfl rfl (by kernel_rfl) (by decide)) ?_
        refine uE rfl rfl (wA (off := 0) (i := 1) cGExpand_token (y' := R[j]) (v := .agg (cGExpand_token R[j])) (hixR i hlti) hH rfl rfl rfl rfl rfl rfl rfl rfl rfl fun H' hH => ?_)
        refine uN 0 (v := .own ((R.set i R[j]).map cGExpand_token).length (some (g, c))) (by simp [Env.of, own_set]; rfl) ?_
        refine WpOps.nil ?_
        refine WpC.region ?_
        refine uA 3 rfl (show -9223372036854775808 ≤ (i : Int) + 1 ∧ (i : Int) + 1 ≤ 9223372036854775807 from ⟨by omega, by omega⟩) ?_
        refine WpOps.nil ?_
        refine uP (i := 0) hH rfl (fun H' hH => ?_)
        refine WpC.region ?_
        refine uA 3 rfl (show -9223372036854775808 ≤ (j : Int) + 1 ∧ (j : Int) + 1 ≤ 9223372036854775807 from ⟨by omega, by omega⟩) ?_
        refine WpOps.nil ?_
        refine ⟨l.length - (j + 1), by omega, j + 1, i + 1, R.set i R[j], rfl, by omega, by omega, by simpa using hR, ?_, ?_, ⟨rfl, rfl, rfl, rfl, trivial⟩, hH⟩
        · rw [hnext, hp, ← h1, List.take_add_one, List.getElem?_set_self hlti, List.take_set_of_le (Nat.le_refl _), hRj]; rfl
        · rw [List.drop_set_of_lt (by omega), ← List.drop_drop, h2, List.drop_drop]
      · have hp : p l[j] = true := by rw [← hRj]; simpa using hb2
        refine WpC.skip ?_
        refine uP (i := 0) hH rfl (fun H' hH => ?_)
        refine WpC.region ?_
        refine uA 3 rfl (show -9223372036854775808 ≤ (j : Int) + 1 ∧ (j : Int) + 1 ≤ 9223372036854775807 from ⟨by omega, by omega⟩) ?_
        refine WpOps.nil ?_
        refine ⟨l.length - (j + 1), by omega, j + 1, i, R, rfl, by omega, by omega, hR, ?_, ?_, ⟨rfl, rfl, rfl, rfl, trivial⟩, hH⟩
        · rw [hnext, hp, h1]; simp
        · rw [← List.drop_drop, h2, List.drop_drop]
    · have hge : j = l.length := by
        have : ¬ ((j : Int) < (R.length : Int)) := by simpa using hb
        omega
      rw [hge, List.take_length] at h1
      have hrow := hH.row (i := 0) rfl
      refine WpC.exit ?_
      refine uC ?_
      refine uA 2 rfl trivial ?_
      refine uB rfl rfl (Exact.slice_rest (k := i) (size := 9) rfl rfl rfl hrow (Nat.le_refl _) (by rw [List.length_map]; omega) rfl rfl (by decide)) ?_
      refine uE rfl rfl (WpO.clearCut (k := i) (size := 9) (m := (R.map cGExpand_token).length - i) rfl rfl (by kernel_rfl) (by decide) rfl hrow (fun h => if_pos h) (by rw [List.length_map]; omega) (fun hcap => ?_))
      refine WpOps.nil ?_
      refine uC ?_
      refine uA 2 rfl trivial ?_
      refine uB rfl rfl (wD (k := i) (size := 9) rfl rfl rfl hcap (by rw [List.length_map]; omega) rfl rfl (by decide)) ?_
      refine uA 1 rfl trivial ?_
      refine WpOps.nil ?_
      refine WpC.ret ?_
      have hi2 : ((R.map cGExpand_token).take i) = (l.filter fun y => !p y).map cGExpand_token := by rw [← List.map_take, h1]
      have hi3 : i = ((l.filter fun y => !p y).map cGExpand_token).length := by rw [← hi2, List.length_take, List.length_map]; omega
      obtain ⟨H2, e2, own2⟩ := hH
      have e2 : H2 = H1 := e2
      subst e2
      have hr2 := Own.row_inv own2 rfl
      obtain ⟨hn2, _, rfl⟩ := hr2
      refine uH rfl rfl ⟨by rw [← hi3], ?_⟩
      rw [vT, hi2]
      exact ⟨_, rfl, Vc.Own.row g c hn2 rfl⟩
theorem w_DeleteFuncEK {fd : Nat} {f : GExpand_token → Option Bool} (he : enterable Tryz.prog fd = true) (hd : ∀ H y b, f y = some b → TCall Tryz.prog fd [.agg (cGExpand_token y)] H (fun v H' => v = bA b ∧ H' = H) noE) {H1 H : Heap} {l r : List GExpand_token} {q : Option (Nat × Nat)} (hr : Sh.delF f l = some r) (hl : l.length ≤ 9223372036854775806) (hH : Holds H1 [.own 255 9 q (l.map cGExpand_token)] H) :
  TCall Tryz.prog 189 [.own (l.map cGExpand_token).length q, .clo (.func fd) [] []] H (fun v H' => v = .own (r.map cGExpand_token).length q ∧ Holds H1 [.own 255 9 q (r.map cGExpand_token)] H') noE := by
 obtain ⟨h1, rfl⟩ := Sh.delF_some hr
 exact w_DeleteFuncPK he (fun H y hy => hd H y _ (h1 y hy)) hl hH
def backLM (l : List GMacro) : List (List AV) := (List.range l.length).map fun k => [iA ((l.length - 1 - k : Nat) : Int), .agg (cGMacro (l.getD (l.length - 1 - k) (GMacro.mk ([] : List UInt8) false ([] : List (List UInt8)) false ([] : List GTok))))]
theorem backLM_len (l : List GMacro) : (backLM l).length = l.length := by unfold backLM; simp
theorem backLM_at (l : List GMacro) (k : Nat) (h : k < l.length) : (backLM l)[k]? = some [iA ((l.length - 1 - k : Nat) : Int), .agg (cGMacro l[l.length - 1 - k])] := by
 unfold backLM
 rw [List.getElem?_map, List.getElem?_range h]
 show some [iA ((l.length - 1 - k : Nat) : Int), AV.agg (cGMacro (l.getD (l.length - 1 - k) (GMacro.mk ([] : List UInt8) false ([] : List (List UInt8)) false ([] : List GTok))))] = _
 rw [List.getD_eq_getElem?_getD, List.getElem?_eq_getElem (show l.length - 1 - k < l.length by omega)]; rfl
theorem w_backM_c1 {H0 : Heap} {g : Nat} {l : List GMacro} (hlen : l.length ≤ 9000000000000000000) (hg : H0 g = some (.cells 60 [.rows 5 (l.map cGMacro)])) : TSeq Tryz.prog 149 [pB g] H0 (backLM l) := by
 intro y J Jx hJ hY H h0
 refine TCall.body Tryz.func149 rfl rfl ?_
 have hcell0 := hJ 0 H h0 g _ hg
 refine uC ?_
 refine uB (v := .rows 5 (l.map cGMacro)) rfl rfl (Exact.load rfl rfl hcell0 rfl rfl) ?_
 refine uA 1 rfl trivial ?_
 refine uN 5 (len_map _ _) ?_
 refine uA 2 rfl (show -9223372036854775808 ≤ (l.length : Int) - 1 ∧ (l.length : Int) - 1 ≤ 9223372036854775807 from ⟨by omega, by omega⟩) ?_
 refine WpOps.nil ?_
 refine WpC.block ?_
 refine WpC.loop (fun n env H => ∃ k : Nat, n = l.length - k ∧ k ≤ l.length ∧ knows env [(0, .clo (.yield y) [] []), (1, pB g), (3, iA ((l.length : Int) - 1 - (k : Int)))] ∧ J k H) _ ⟨0, rfl, Nat.zero_le _, ⟨rfl, rfl, by rw [show (l.length : Int) - 1 - ((0 : Nat) : Int) = (l.length : Int) - 1 by omega]; rfl, trivial⟩, h0⟩ ?_
 rintro n env H ⟨k, rfl, hkl, hk, hj⟩
 rw [← hk.eq]
 have hcell := hJ k H hj g _ hg
 refine WpC.seq ?_
 refine uC ?_
 refine uA 2 rfl trivial ?_
 refine WpOps.nil ?_
 refine uF rfl (fun hb => ?_) (fun hb => ?_)
 ·have hlt : k < l.length := by
   have : (0 : Int) ≤ (l.length : Int) - 1 - (k : Int) := by simpa using hb
   omega
  have e1 : (l.length : Int) - 1 - (k : Int) = ((l.length - 1 - k : Nat) : Int) := by omega
  have hix : Sh.ix l ((l.length : Int) - 1 - (k : Int)) = some l[l.length - 1 - k] := by rw [e1, Sh.ix_nat]; exact List.getElem?_eq_getElem (by omega)
  refine WpC.skip ?_
  refine WpC.seq ?_
  refine WpC.block ?_
  refine uC ?_
  refine uA 2 rfl trivial ?_
  refine uB (v := .rows 5 (l.map cGMacro)) rfl rfl (Exact.load rfl rfl hcell rfl rfl) ?_
  refine uA 1 rfl trivial ?_
  refine uB (v := .rop (cGMacro l[l.length - 1 - k])) rfl rfl (uR cGMacro hix rfl rfl rfl rfl (by kernel_rfl) (by decide)) ?_
  refine uB (v := .agg (cGMacro l[l.length - 1 - k])) rfl rfl (uG rfl rfl rfl) ?_
  refine uE rfl rfl (WpO.call_yield rfl rfl rfl ((hY k [iA ((l.length : Int) - 1 - (k : Int)), .agg (cGMacro l[l.length - 1 - k])] H (by rw [backLM_at l k hlt, e1]) hj).mono ?_))
  rintro v H' (⟨rfl, hj'⟩ | ⟨rfl, hx⟩)
  ·refine uA 1 rfl trivial ?_
   refine WpOps.nil ?_
   refine wI rfl ?_
   refine WpC.skip ?_
   refine WpC.region ?_
   refine uA 3 rfl (show -9223372036854775808 ≤ (l.length : Int) - 1 - (k : Int) - 1 ∧ (l.length : Int) - 1 - (k : Int) - 1 ≤ 9223372036854775807 from ⟨by omega, by omega⟩) ?_
   refine WpOps.nil ?_
   exact ⟨l.length - (k + 1), by omega, k + 1, rfl, by omega, ⟨rfl, rfl, by rw [show (l.length : Int) - 1 - ((k + 1 : Nat) : Int) = (l.length : Int) - 1 - (k : Int) - 1 by omega]; rfl, trivial⟩, hj'⟩
  ·refine uA 1 rfl trivial ?_
   refine WpOps.nil ?_
   refine WpC.condT rfl ?_
   refine WpC.ret ?_
   exact VEnds.ret0 rfl (.inr hx)
 ·have hge : k = l.length := by
   have : ¬ (0 : Int) ≤ (l.length : Int) - 1 - (k : Int) := by simpa using hb
   omega
  subst hge
  refine WpC.exit ?_
  exact vW rfl (.inl (by rw [backLM_len]; exact hj))
theorem w_backM {l : List GMacro} (H : Heap) : TCall Tryz.prog 130 [.rows 5 (l.map cGMacro)] H (fun v H' => ∃ g, H g = none ∧ v = .clo (.func 149) [] [pB g] ∧ H' = H.set g (.cells 60 [.rows 5 (l.map cGMacro)])) noE := by
 refine TCall.body Tryz.func130 rfl rfl ?_
 refine uC ?_
 refine uE rfl rfl (WpO.box rfl rfl fun g hg => ?_)
 refine uA 1 rfl trivial ?_
 refine WpOps.nil ?_
 refine uC ?_
 refine uA 2 rfl trivial ?_
 refine WpOps.nil ?_
 refine WpC.ret ?_
 exact uH rfl rfl ⟨g, hg, rfl, rfl⟩
theorem sorts : SortsS Tryz.prog 129 := fun blk off cap ss w h1 h2 h3 => Go.Proofs.AnyM.slices_Sort_string Go.Proofs.Tryz.mSort blk off cap ss w h1 h2 h3
theorem sorts_nil (w : World) : Calls Tryz.prog 129 #[.slice none 0 0] w fun e w' => e = .returned (.tuple #[]) ∧ w' = w := Go.Proofs.AnyM.slices_Sort_string_none Go.Proofs.Tryz.mSort none 0 w
theorem own_sortS (l : List (List UInt8)) (p : Option (Nat × Nat)) : AV.own (l.map cS).length p = .own ((sortS l).map cS).length p := by rw [List.length_map, List.length_map]; unfold sortS; rw [List.length_mergeSort]
theorem w_sortS {H0 H : Heap} {l : List (List UInt8)} {p : Option (Nat × Nat)} (hc : l.length < 4611686018427387904) (hH : Holds H0 [.own 9 1 p (l.map cS)] H) : TCall Tryz.prog 129 [.own (l.map cS).length p] H (fun v H' => v = .tup [] ∧ Holds H0 [.own 9 1 p ((sortS l).map cS)] H') noE := by
 rcases wH hH.one_inv with ⟨rfl, he, rfl⟩ | ⟨g, c, rfl, hg, rfl⟩
 ·have hl : l = [] := by simpa using he
  subst hl
  have e : sortS ([] : List (List UInt8)) = [] := by unfold sortS; simp
  rw [e]
  refine (tcall_sort_nil (P := Tryz.prog) (f := 129) sorts_nil).mono ?_ (fun _ _ h => h.elim)
  rintro _ H' ⟨rfl, rfl⟩
  exact ⟨rfl, (show Holds _ [] _ from rfl).nil 9 1⟩
 ·have ht := tcall_sort (c := c) (t := 9) (g := g) (ss := l) (H := H0.set g (.row 9 1 (l.map cS) c)) sorts (uO _ _ _) hc
  rw [show l.length = (l.map cS).length from (List.length_map _).symm] at ht
  refine ht.mono ?_ (fun _ _ h => h.elim)
  rintro _ H' ⟨rfl, rfl⟩
  rw [vT]
  exact ⟨rfl, (show Holds H0 [] H0 from rfl).newRow hg⟩
theorem noAdj_at : ∀ (l : List (List UInt8)), noAdj l = true → ∀ i (h : i + 1 < l.length), l[i] ≠ l[i + 1]
  | [], _, i, h => by simp at h
  | [a], _, i, h => by simp at h
  | a :: b :: r, hn, i, h => by
    unfold noAdj at hn
    rw [Bool.and_eq_true] at hn
    cases i with
    | zero => have := hn.1; simpa using this
    | succ i => exact noAdj_at (b :: r) hn.2 i (by simpa using h)
theorem w_compS {H0 H : Heap} {l : List (List UInt8)} {p : Option (Nat × Nat)} (hc : noAdj l = true ∧ l.length < 4611686018427387904) (hH : Holds H0 [.own 9 1 p (l.map cS)] H) : TCall Tryz.prog 202 [.own (l.map cS).length p] H (fun v H' => v = .own (l.map cS).length p ∧ Holds H0 [.own 9 1 p (l.map cS)] H') noE := by
  obtain ⟨hn, hl⟩ := hc
  have hix : ∀ i, (h : i < l.length) → Sh.ix l (i : Int) = some l[i] := fun i h => by rw [Sh.ix_nat]; exact List.getElem?_eq_getElem h
  refine id (TCall.body Tryz.func202 rfl rfl ?_)
  refine uC ?_
  refine uA 1 rfl trivial ?_
  refine WpOps.nil ?_
  refine WpC.seq ?_
  refine uC ?_
  refine uA 2 rfl trivial ?_
  refine uN 7 (len_map _ _) ?_
  refine uA 1 rfl trivial ?_
  refine WpOps.nil ?_
  refine uF rfl (fun hb => ?_) (fun hb => ?_)
  · refine uC ?_
    refine uA 2 rfl trivial ?_
    refine WpOps.nil ?_
    refine WpC.ret ?_
    exact uH rfl rfl ⟨rfl, hH⟩
  have h2 : 2 ≤ l.length := by
    have : ¬ ((l.length : Int) < 2) := by simpa using hb
    omega
  obtain ⟨g, c, rfl⟩ := hH.grown (i := 0) rfl (fun e => by have := congrArg List.length e; simp at this; subst this; simp at h2)
  refine WpC.skip ?_
  refine WpC.seq ?_
  refine uC ?_
  refine uA 1 rfl trivial ?_
  refine WpOps.nil ?_
  refine WpC.block ?_
  refine WpC.loop (fun n env H' => ∃ (j : Nat), n = l.length - j ∧ 1 ≤ j ∧ j ≤ l.length ∧ knows env [(0, .own (l.map cS).length (some (g, c))), (3, iA j)] ∧ Holds H0 [.own 9 1 (some (g, c)) (l.map cS)] H') _ ⟨1, rfl, Nat.le_refl _, by omega, ⟨rfl, rfl, trivial⟩, hH⟩ ?_
  clear hH
  rintro n env H' ⟨j, rfl, hj1, hj, hk, hH⟩
  rw [← hk.eq]
  refine WpC.seq ?_
  refine uC ?_
  refine uA 3 rfl trivial ?_
  refine uN 12 (len_map _ _) ?_
  refine uA 1 rfl trivial ?_
  refine WpOps.nil ?_
  refine uF rfl (fun hb => ?_) (fun hb => ?_)
  · have hlt : j < l.length := by simpa using hb
    have hixp : Sh.ix l ((j : Int) - 1) = some l[j - 1] := by rw [show (j : Int) - 1 = ((j - 1 : Nat) : Int) by omega]; exact hix (j - 1) (by omega)
    refine WpC.skip ?_
    refine WpC.seq ?_
    refine WpC.block ?_
    refine vO [.I, .I, .I, .S, .I, .I, .I, .I, .S, .I] [0, 1, 2, 3, 4, 5, 6, 7, 8, 9] (by kernel_rfl) (by kernel_rfl) ?_
    refine uK 2 rfl trivial ?_
    refine uV rfl rfl rfl rfl (fun _ => vP (size := 1) cS (hix j hlt) rfl rfl rfl rfl (by kernel_rfl) (by decide)) ?_
    refine uT (v := sA l[j]) rfl rfl rfl rfl (Exact.ldo (off := 0) (i := 0) cS (hix j hlt) hH rfl rfl rfl (by decide) rfl) ?_
    refine uK 3 rfl (show -9223372036854775808 ≤ (j : Int) - 1 ∧ (j : Int) - 1 ≤ 9223372036854775807 from ⟨by omega, by omega⟩) ?_
    refine uV rfl rfl rfl rfl (fun _ => vP (size := 1) cS hixp rfl rfl rfl rfl (by kernel_rfl) (by decide)) ?_
    refine uT (v := sA l[j - 1]) rfl rfl rfl rfl (Exact.ldo (off := 0) (i := 0) cS hixp hH rfl rfl rfl (by decide) rfl) ?_
    refine uK 1 rfl trivial ?_
    refine WpPi.nil ?_
    refine uF rfl (fun hb2 => ?_) (fun hb2 => ?_)
    · exfalso
      have e1 : l[j] = l[j - 1] := by simpa using hb2
      have e2 := noAdj_at l hn (j - 1) (by omega)
      have e3 : l[j - 1 + 1] = l[j] := by congr 1; omega
      exact e2 (by rw [e3, e1])
    · refine WpC.skip ?_
      refine WpC.region ?_
      refine uA 3 rfl (show -9223372036854775808 ≤ (j : Int) + 1 ∧ (j : Int) + 1 ≤ 9223372036854775807 from ⟨by omega, by omega⟩) ?_
      refine WpOps.nil ?_
      exact ⟨l.length - (j + 1), by omega, j + 1, rfl, by omega, by omega, ⟨rfl, rfl, trivial⟩, hH⟩
  · refine WpC.exit ?_
    refine uC ?_
    refine uA 2 rfl trivial ?_
    refine WpOps.nil ?_
    refine WpC.ret ?_
    exact uH rfl rfl ⟨rfl, hH⟩
end Go.Proofs.YtgmpeddopfnioaaGreatDoor
