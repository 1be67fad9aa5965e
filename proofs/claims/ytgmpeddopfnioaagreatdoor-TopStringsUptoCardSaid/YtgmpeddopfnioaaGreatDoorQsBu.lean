/-
  Part of the proof of Strings.
-/
import Derived.Test.YtgmpeddopfnioaaGreatDoorQsTyzx
import Derived.Test.YtgmpeddopfnioaaGreatDoorChecked

set_option linter.unusedVariables false
set_option linter.unusedSimpArgs false
set_option maxRecDepth 20000
namespace Go.Proofs.YtgmpeddopfnioaaGreatDoor
open Go Go.Vc Go.Sh
attribute [local irreducible] WpC WpOps WpPi WpO Exact TCall VEnds Sh.loopS
abbrev pB (g : Nat) : AV := .lit (.pointer (some ⟨g, 0, none⟩))
theorem Holds.bld_open {H1 H : Heap} {g t et : Nat} {bs : List UInt8} {rs : List Res} (h : Holds H1 (.bld g t et bs :: rs) H) : ∃ p a, Holds H1 (.cell g t [a, .own (bs.map cU).length p] :: .own et 1 p (bs.map cU) :: rs) H ∧ (a = .lit (.pointer none) ∨ a = pB g) ∧ (p ≠ none → bs ≠ []) := by
 obtain ⟨H2, h1, p, a, H3, k1, k2, k3, k4⟩ := h
 exact ⟨p, a, ⟨H3, ⟨H2, h1, k1⟩, k2⟩, k3, k4⟩
theorem Holds.bld_close {H1 H : Heap} {g t et : Nat} {bs : List UInt8} {rs : List Res} {p : Option (Nat × Nat)} {a : AV} (h : Holds H1 (.cell g t [a, .own (bs.map cU).length p] :: .own et 1 p (bs.map cU) :: rs) H) (ha : a = .lit (.pointer none) ∨ a = pB g) (hi : p ≠ none → bs ≠ []) : Holds H1 (.bld g t et bs :: rs) H := by
 obtain ⟨H3, ⟨H2, h1, k1⟩, k2⟩ := h
 exact ⟨H2, h1, p, a, H3, k1, k2, ha, hi⟩
theorem Bu.ek : ElemOk Tryz.prog 59 5 1 1 := ElemOk.of (by kernel_rfl)
theorem Bu.info : (Tryz.prog.info? 146).map (fun j => decide (j.size ≠ 0)) = some true := by kernel_rfl
theorem w_copyCheck {H1 H : Heap} {g n : Nat} {q : Option (Nat × Nat)} {a : AV} (ha : a = .lit (.pointer none) ∨ a = pB g) (hH : Holds H1 [.cell g 146 [a, .own n q]] H) : TCall Tryz.prog 106 [pB g] H (fun v H' => v = .tup [] ∧ Holds H1 [.cell g 146 [pB g, .own n q]] H') noE := by
 refine TCall.body Tryz.func106 rfl rfl ?_
 obtain ⟨j, hj, hj0⟩ := Option.map_eq_some_iff.1 Bu.info
 rcases ha with rfl | rfl
 ·refine WpC.seqR ?_
  refine WpOps.pn 3 rfl trivial ?_
  refine WpOps.consE rfl rfl (Exact.load rfl rfl (hH.cell (i := 0) rfl) rfl rfl) ?_
  refine WpOps.pn 1 rfl trivial ?_
  refine WpOps.nil ?_
  refine WpC.condT rfl ?_
  refine WpC.region ?_
  refine WpOps.pn 2 rfl trivial ?_
  refine WpOps.consE rfl rfl (Exact.to_unsafe (t := 146) rfl rfl (hH.cell (i := 0) rfl) (by kernel_rfl) (by kernel_rfl) hj (of_decide_eq_true hj0) (by simp)) ?_
  refine WpOps.consE rfl rfl (Exact.same rfl Tryz.func125 (by decide) rfl rfl rfl rfl) ?_
  refine WpOps.consE rfl rfl (Exact.from_unsafe (u := 146) rfl rfl (hH.cell (i := 0) rfl) (by kernel_rfl) (by kernel_rfl) hj (by kernel_rfl)) ?_
  refine WpOps.pn 2 rfl trivial ?_
  refine WpOps.consG rfl rfl (WpO.putT (cs' := [pB g, .own n q]) (v := pB g) rfl rfl hH (i := 0) rfl rfl rfl rfl rfl rfl rfl fun H' hH => ?_)
  refine WpOps.nil ?_
  exact VEnds.end0 rfl ⟨rfl, hH⟩
 ·refine WpC.seqR ?_
  refine WpOps.pn 3 rfl trivial ?_
  refine WpOps.consE rfl rfl (Exact.load rfl rfl (hH.cell (i := 0) rfl) rfl rfl) ?_
  refine WpOps.pn 1 rfl trivial ?_
  refine WpOps.nil ?_
  refine WpC.condF rfl ?_
  refine WpC.seqR ?_
  refine WpOps.pn 3 rfl trivial ?_
  refine WpOps.consE rfl rfl (Exact.load rfl rfl (hH.cell (i := 0) rfl) rfl rfl) ?_
  refine WpOps.pn 1 rfl trivial ?_
  refine WpOps.consE rfl rfl (Exact.neq_ptr (te := 146) rfl rfl rfl (by kernel_rfl) hj) ?_
  refine WpOps.nil ?_
  refine WpC.condF rfl ?_
  refine WpC.skip ?_
  exact VEnds.end0 rfl ⟨rfl, hH⟩
theorem w_WriteByte {H1 H : Heap} {g : Nat} {bs : List UInt8} {c : UInt8} (hb : bs.length + 1 ≤ 140737488355328) (hH : Holds H1 [.bld g 146 5 bs] H) : TCall Tryz.prog 75 [pB g, u8A c] H (fun v H' => v = .lit .nilIface ∧ Holds H1 [.bld g 146 5 (bs ++ [c])] H') noE := by
 refine TCall.body Tryz.func75 rfl rfl ?_
 obtain ⟨p, a, hH, ha, hi⟩ := Holds.bld_open hH
 refine WpC.seqR ?_
 refine WpOps.pn 1 rfl trivial ?_
 refine WpOps.nil ?_
 refine WpC.seqR ?_
 refine WpOps.pn 1 rfl trivial ?_
 refine WpOps.consG rfl rfl (WpO.callT rfl rfl rfl hH (i := 0) rfl (fun H1 hl hh => w_copyCheck ha hh) fun H' hH => ?_)
 refine WpOps.nil ?_
 refine WpC.seqR ?_
 refine WpOps.pn 4 rfl trivial ?_
 refine WpOps.consE rfl rfl (Exact.load rfl rfl (hH.cell (i := 0) rfl) rfl rfl) ?_
 refine WpOps.pn 1 rfl trivial ?_
 refine WpOps.consE (v := .rows 1 [[u8A c]]) rfl rfl (Exact.litSlice rfl rfl) ?_
 refine WpOps.consG rfl rfl (WpO.pushT cU bs [c] (i := 1) rfl Bu.ek hH rfl rfl rfl (.rows _) (fun y _ => one_cU y) (by simp) (by simpa using hb) (by decide) fun p' H' hH => ?_)
 refine WpOps.pn 2 rfl trivial ?_
 refine WpOps.consG rfl rfl (WpO.putT (cs' := [pB g, .own ((bs ++ [c]).map cU).length p']) (v := .own ((bs ++ [c]).map cU).length p') rfl rfl hH (i := 0) rfl rfl rfl rfl rfl rfl rfl fun H' hH => ?_)
 refine WpOps.nil ?_
 refine WpC.seqR ?_
 refine WpOps.pn 1 rfl trivial ?_
 refine WpOps.nil ?_
 refine WpC.ret ?_
 exact VEnds.ret1 rfl rfl ⟨rfl, Holds.bld_close hH (.inr rfl) (fun _ => by simp)⟩
theorem w_WriteString {H1 H : Heap} {g : Nat} {bs l : List UInt8} (hb : bs.length + l.length ≤ 140737488355328) (hH : Holds H1 [.bld g 146 5 bs] H) : TCall Tryz.prog 76 [pB g, sA l] H (fun v H' => v = .tup [iA l.length, .lit .nilIface] ∧ Holds H1 [.bld g 146 5 (bs ++ l)] H') noE := by
 refine TCall.body Tryz.func76 rfl rfl ?_
 obtain ⟨p, a, hH, ha, hi⟩ := Holds.bld_open hH
 refine WpC.seqR ?_
 refine WpOps.pn 2 rfl trivial ?_
 refine WpOps.nil ?_
 refine WpC.seqR ?_
 refine WpOps.pn 1 rfl trivial ?_
 refine WpOps.consG rfl rfl (WpO.callT rfl rfl rfl hH (i := 0) rfl (fun H1 hl hh => w_copyCheck ha hh) fun H' hH => ?_)
 refine WpOps.nil ?_
 refine WpC.seqR ?_
 refine WpOps.pn 4 rfl trivial ?_
 refine WpOps.consE rfl rfl (Exact.load rfl rfl (hH.cell (i := 0) rfl) rfl rfl) ?_
 refine WpOps.pn 1 rfl trivial ?_
 obtain ⟨Hx, k1, k2, k3, k4⟩ := hH.at_ (i := 1) rfl
 refine WpOps.consG rfl rfl (WpO.push_str rfl Bu.ek (by kernel_rfl) (by kernel_rfl) rfl k1 rfl hb hi fun p' H' own hi' => ?_)
 have hH := k4 (.own 5 1 p' ((bs ++ l).map cU)) _ own
 refine WpOps.pn 2 rfl trivial ?_
 refine WpOps.consG rfl rfl (WpO.putT (cs' := [pB g, .own ((bs ++ l).map cU).length p']) (v := .own ((bs ++ l).map cU).length p') rfl rfl hH (i := 0) rfl rfl rfl rfl rfl rfl rfl fun H' hH => ?_)
 refine WpOps.nil ?_
 refine WpC.seqR ?_
 refine WpOps.pn 4 rfl trivial ?_
 refine WpOps.nil ?_
 refine WpC.ret ?_
 exact VEnds.ret2 rfl rfl rfl ⟨rfl, Holds.bld_close hH (.inr rfl) hi'⟩
theorem w_String {H1 H : Heap} {g : Nat} {bs : List UInt8} (hH : Holds H1 [.bld g 146 5 bs] H) : TCall Tryz.prog 77 [pB g] H (fun v H' => v = sA bs ∧ H' = H1) noE := by
 refine TCall.body Tryz.func77 rfl rfl ?_
 obtain ⟨p, a, hH, ha, hi⟩ := Holds.bld_open hH
 obtain ⟨Hx, k1, k2, k3, k4⟩ := hH.at_ (i := 1) rfl
 refine WpC.seqR ?_
 refine WpOps.pn 1 rfl trivial ?_
 refine WpOps.nil ?_
 refine WpC.seqD [.I, .I, .I, .S, .S, .I, .I, .I, .S, .I, .E] [0, 1, 2, 3, 4, 5, 6, 7, 8, 9, 10, 11] (by kernel_rfl) (by kernel_rfl) ?_
 refine WpPi.pn 3 rfl trivial ?_
 refine WpPi.consS rfl rfl rfl rfl (Exact.load rfl rfl (hH.cell (i := 0) rfl) rfl rfl) ?_
 refine WpPi.consS rfl rfl rfl rfl (Exact.sliceData rfl rfl k1 hi) ?_
 refine WpPi.pn 3 rfl trivial ?_
 refine WpPi.consS rfl rfl rfl rfl (Exact.load rfl rfl (hH.cell (i := 0) rfl) rfl rfl) ?_
 refine WpPi.pn 1 rfl trivial ?_
 refine WpPi.at 12 (len_map cU bs) ?_
 refine WpPi.consE rfl rfl rfl rfl (WpO.unsafeString (bs := bs) rfl rfl rfl k1 (by kernel_rfl) (by kernel_rfl) hi ?_)
 refine WpPi.pn 1 rfl trivial ?_
 refine WpPi.nil ?_
 refine WpC.lose (i := 0) k3 rfl (fun H' hH => ?_)
 refine WpC.ret ?_
 exact VEnds.ret1 rfl rfl ⟨rfl, hH⟩
end Go.Proofs.YtgmpeddopfnioaaGreatDoor
