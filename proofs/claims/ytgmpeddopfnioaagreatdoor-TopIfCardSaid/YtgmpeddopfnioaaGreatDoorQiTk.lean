/-
  Part of the proof of If.
-/
import Derived.Test.YtgmpeddopfnioaaGreatDoorQiMmx
import Derived.Test.YtgmpeddopfnioaaGreatDoorQiSox
import Derived.Test.YtgmpeddopfnioaaGreatDoorQiRu

set_option linter.unusedVariables false
set_option linter.unusedSimpArgs false
set_option maxRecDepth 20000
set_option maxHeartbeats 8000000
namespace Go.Proofs.YtgmpeddopfnioaaGreatDoor
open Go Go.Vc Go.Sh
theorem Wk.row0 {H1 : Heap} {g t size c : Nat} {es : List (List AV)} : Wk (H1.set g (.row t size es c)) (H1.set g (.row t size [] c)) := fun w => by
  have hd : (H1.set g (.row t size [] c)).dom = (H1.set g (.row t size es c)).dom := by
    funext k; apply propext; unfold Heap.dom
    by_cases e : k = g
    · subst e; rw [uO, uO]; exact ⟨fun _ => ⟨_, rfl, rfl⟩, fun _ => ⟨_, rfl, rfl⟩⟩
    · rw [uS _ _ e, uS _ _ e]
  refine ⟨⟨rfl, rfl, rfl, Nat.le_refl _, fun _ _ _ => rfl, fun g' hg' => .inl (by rw [hd] at hg'; exact hg')⟩, fun hh k o ho => ?_⟩
  by_cases e : k = g
  · subst e
    rw [uO] at ho; injection ho with ho; subst ho
    obtain ⟨cur, h1, h2, h3, h4, h5, h6⟩ := hh k _ (uO _ _ _)
    exact ⟨cur, h1, h2, Nat.zero_le _, h4, (fun e he => by cases he), by simpa using VRs.nil⟩
  · rw [uS _ _ e] at ho
    rw [hd]
    exact hh k o (by rw [uS _ _ e]; exact ho)
theorem row0_holds {H0 H : Heap} {rs : List Res} {i t size g c : Nat} {es : List (List AV)} (h : Go.Vc.Holds H0 rs H) (hi : rs[i]? = some (.own t size (some (g, c)) es)) : ∃ H', Wk H H' ∧ Go.Vc.Holds H0 (rs.set i (.own t size (some (g, c)) [])) H' := by
 obtain ⟨H1, k1, k2, k3, k4⟩ := h.at_ hi
 rcases wH k1 with ⟨e, _⟩ | ⟨g', c', e, hg, rfl⟩
 ·cases e
 ·injection e with e; injection e with e1 e2; subst e1; subst e2
  exact ⟨_, Wk.row0, k4 _ _ (Vc.Own.row _ _ hg rfl)⟩
attribute [local irreducible] WpC WpOps WpPi Go.Vc.WpO Exact TCall VEnds Sh.loopS
theorem ekO : ElemOk Tryz.prog 172 178 4 64 := vV (by kernel_rfl)
theorem ekB : ElemOk Tryz.prog 176 180 2 32 := vV (by kernel_rfl)
theorem ekI : ElemOk Tryz.prog 125 186 3 40 := vV (by kernel_rfl)
abbrev pK (g : Nat) : AV := .lit (.pointer (some ⟨g, 0, none⟩))
theorem w_push {H0 H : Heap} {gs : Nat} {po : Option (Nat × Nat)} {ln : Int} {nb na : Nat} {pb pa : Option (Nat × Nat)} {la : Bool} (hH : Holds H0 [.cell gs 174 [.own 0 po], .own 178 4 po []] H) :
  TCall Tryz.prog 91 [pK gs, .agg [iA ln, .own nb pb, bA la, .own na pa]] H (fun v H' => ∃ b, v = .tup [] ∧ Holds H0 [.cell gs 174 [.own 1 b], .own 178 4 b [[iA ln, .own nb pb, bA la, .own na pa]]] H') noE := by
 refine id (TCall.body Tryz.func91 rfl rfl ?_)
 refine uC ?_
 refine uE rfl rfl (vF (v := .agg [iA ln, .own nb pb, bA la, .own na pa]) rfl rfl hH fun g3 H' hH => ?_)
 refine WpOps.nil ?_
 refine wB [.I, .I, .I, .I, .S, .S, .I, .E, .I, .I, .E] [0, 1, 2, 3, 4, 5, 6, 7, 8, 9, 10] (by kernel_rfl) (by kernel_rfl) ?_
 refine uK 4 rfl trivial ?_
 refine uT (v := .own 0 po) rfl rfl rfl rfl (Exact.load rfl rfl (hH.cell (i := 1) rfl) rfl rfl) ?_
 refine uT (v := .agg [iA ln, .own nb pb, bA la, .own na pa]) rfl rfl rfl rfl (Exact.load rfl rfl (hH.cell (i := 0) rfl) rfl rfl) ?_
 refine uV (v := .rows 4 [[iA ln, .own nb pb, bA la, .own na pa]]) rfl rfl rfl rfl (fun _ => uW rfl (by kernel_rfl)) ?_
 refine vM rfl rfl rfl rfl (vL (fun x : List AV => x) [] [[iA ln, .own nb pb, bA la, .own na pa]] (i := 2) rfl ekO hH rfl rfl rfl (.rows _) (fun y hy => by rw [List.mem_singleton.1 hy]; rfl) (by simp) (by simp only [List.length_cons, List.length_nil]; omega) (by decide) fun p' H' hH => ?_)
 refine uK 2 rfl trivial ?_
 refine vM rfl rfl rfl rfl (uQ (cs' := [.own 1 p']) (v := .own 1 p') rfl rfl hH (i := 1) rfl rfl rfl rfl rfl rfl rfl fun H' hH => ?_)
 refine WpPi.nil ?_
 obtain ⟨H2, hle, hH⟩ := hH.lose_ (i := 0) rfl
 exact ⟨_, hle, vW rfl ⟨p', rfl, hH⟩⟩
theorem w_top {H : Heap} {gs go c : Nat} (hg : H gs = some (.cells 174 [.own 1 (some (go, c))])) : TCall Tryz.prog 92 [pK gs] H (fun v H' => v = pK go ∧ H' = H) noE := by
 refine id (TCall.body Tryz.func92 rfl rfl ?_)
 refine uC ?_
 refine uA 1 rfl trivial ?_
 refine WpOps.nil ?_
 refine vO [.I, .I, .I, .S, .I, .I, .I, .S, .I, .I, .I, .I] [0, 1, 2, 3, 4, 5, 6, 7, 8, 9, 10, 11] (by kernel_rfl) (by kernel_rfl) ?_
 refine uK 3 rfl trivial ?_
 refine uT (v := .own 1 (some (go, c))) rfl rfl rfl rfl (Exact.load rfl rfl hg rfl rfl) ?_
 refine uK 3 rfl trivial ?_
 refine uT (v := .own 1 (some (go, c))) rfl rfl rfl rfl (Exact.load rfl rfl hg rfl rfl) ?_
 refine uK 2 rfl (show -9223372036854775808 ≤ ((1 : Nat) : Int) - 1 ∧ ((1 : Nat) : Int) - 1 ≤ 9223372036854775807 from ⟨by omega, by omega⟩) ?_
 refine uV (v := pK go) rfl rfl rfl rfl (fun _ => vP (size := 4) (fun x : List AV => x) (l := [[]]) (n := 0) (y := []) rfl rfl rfl rfl rfl (by kernel_rfl) (by decide)) ?_
 refine uK 1 rfl trivial ?_
 refine WpPi.nil ?_
 refine WpC.ret ?_
 exact uH rfl rfl ⟨rfl, rfl⟩
theorem endB_len : ∀ (bs : List GBranch) (l : List GLeaf), (endB bs l).length = bs.length
 | [], _ => rfl
 | [b], _ => rfl
 | b :: b2 :: bs, l => by simp only [endB, List.length_cons]; rw [endB_len (b2 :: bs) l]; rfl
theorem endB_set : ∀ (bs : List GBranch) (l : List GLeaf) (b : GBranch), bs[bs.length - 1]? = some b → bs.set (bs.length - 1) { b with items := l } = endB bs l
 | [], _, _, h => by simp at h
 | [x], l, b, h => by simp at h; subst h; rfl
 | x :: x2 :: bs, l, b, h => by
  show (x :: x2 :: bs).set ((x2 :: bs).length) _ = x :: endB (x2 :: bs) l
  have e : (x2 :: bs).length = (x2 :: bs).length - 1 + 1 := by simp
  rw [e, List.set_cons_succ, endB_set (x2 :: bs) l b (by rw [← h]; rfl)]
theorem w_ends {H0 H : Heap} {g : Nat} {ob : AObj} {line last ah : AV} {pb : Option (Nat × Nat)} {bs : List GBranch} {leaves : List GLeaf} (hg : H g = some ob) (hf : ob.flat = some [line, .own (bs.map cGBranch).length pb, last, ah]) (hne : bs ≠ []) (hlen : bs.length ≤ 1000000000) (hH : Holds H0 [.own 180 2 pb (bs.map cGBranch)] H) :
  TCall Tryz.prog 93 [pK g, .rows 3 (leaves.map cGLeaf)] H (fun v H' => v = .tup [] ∧ Holds H0 [.own 180 2 pb ((endB bs leaves).map cGBranch)] H') noE := by
 refine id (TCall.body Tryz.func93 rfl rfl ?_)
 have hpos : 0 < bs.length := List.length_pos_iff.2 hne
 obtain ⟨b, hb⟩ : ∃ b, bs[bs.length - 1]? = some b := ⟨bs[bs.length - 1], List.getElem?_eq_getElem (by omega)⟩
 have hix : Sh.ix bs ((bs.length : Int) - 1) = some b := by rw [show (bs.length : Int) - 1 = ((bs.length - 1 : Nat) : Int) by omega, Sh.ix_nat]; exact hb
 obtain ⟨gb, cb, rfl⟩ := hH.grown (i := 0) rfl (fun e => hne (by simpa using e))
 refine WpC.draw [.I, .I, .I, .S, .I, .I, .I, .S, .I, .I, .I, .I, .I, .E] [0, 1, 2, 3, 4, 5, 6, 7, 8, 9, 10, 11, 12, 13] (by kernel_rfl) (by kernel_rfl) ?_
 refine uK 3 rfl trivial ?_
 refine uT (v := .own (bs.map cGBranch).length (some (gb, cb))) rfl rfl rfl rfl (Exact.load rfl rfl hg hf rfl) ?_
 refine uK 3 rfl trivial ?_
 refine uT (v := .own (bs.map cGBranch).length (some (gb, cb))) rfl rfl rfl rfl (Exact.load rfl rfl hg hf rfl) ?_
 refine uK 1 rfl trivial ?_
 refine WpPi.at 12 (len_map _ _) ?_
 refine uK 2 rfl (show -9223372036854775808 ≤ (bs.length : Int) - 1 ∧ (bs.length : Int) - 1 ≤ 9223372036854775807 from ⟨by omega, by omega⟩) ?_
 refine uV rfl rfl rfl rfl (fun _ => vP (size := 2) cGBranch hix rfl rfl rfl rfl (by kernel_rfl) (by decide)) ?_
 refine uK 1 rfl trivial ?_
 refine vM rfl rfl rfl rfl (wA (off := 1) (i := 0) cGBranch (y' := { b with items := leaves }) (v := .rows 3 (leaves.map cGLeaf)) hix hH rfl rfl rfl rfl rfl rfl rfl rfl rfl fun H' hH => ?_)
 refine WpPi.nil ?_
 refine vW rfl ⟨rfl, ?_⟩
 have e : ((bs.length : Int) - 1).toNat = bs.length - 1 := by omega
 rw [← endB_set bs leaves b hb, ← e]
 exact hH
theorem w_pop {H0 H : Heap} {gs go c : Nat} {ln : Int} {nb na : Nat} {pb pa : Option (Nat × Nat)} {la : Bool} (hH : Holds H0 [.cell gs 174 [.own 1 (some (go, c))], .own 178 4 (some (go, c)) [[iA ln, .own nb pb, bA la, .own na pa]]] H) :
  TCall Tryz.prog 94 [pK gs] H (fun v H' => v = .agg [iA ln, .own nb pb, bA la, .own na pa] ∧ Holds H0 [.cell gs 174 [.own 0 (some (go, c))], .own 178 4 (some (go, c)) []] H') noE := by
 refine TCall.up (TCall.body Tryz.func94 rfl rfl ?_)
 refine uC ?_
 refine uE rfl rfl (vC (z := [iA 0, .own 0 none, bA false, .own 0 none]) rfl rfl hH fun g2 H' hH => ?_)
 refine WpOps.nil ?_
 refine wJ (fun H => H gs = some (.cells 174 [.own 1 (some (go, c))]) ∧ H go = some (.row 178 4 [[iA ln, .own nb pb, bA la, .own na pa]] c)) [.I, .I, .I, .I, .I, .I, .I, .I, .I, .I, .I, .I, .E, .E] [0, 1, 2, 3, 4, 5, 6, 7, 8, 9, 10, 11, 12, 13] (by kernel_rfl) (by kernel_rfl) ⟨hH.cell (i := 1) rfl, hH.row (i := 2) rfl⟩ ?_
 refine uK 3 rfl trivial ?_
 refine vD (v := .own 1 (some (go, c))) rfl rfl rfl rfl (fun _ hi => Exact.load rfl rfl hi.1 rfl rfl) ?_
 refine uK 3 rfl trivial ?_
 refine vD (v := .own 1 (some (go, c))) rfl rfl rfl rfl (fun _ hi => Exact.load rfl rfl hi.1 rfl rfl) ?_
 refine uK 2 rfl (show -9223372036854775808 ≤ ((1 : Nat) : Int) - 1 ∧ ((1 : Nat) : Int) - 1 ≤ 9223372036854775807 from ⟨by omega, by omega⟩) ?_
 refine uV (v := pK go) rfl rfl rfl rfl (fun _ => vP (size := 4) (fun x : List AV => x) (l := [[iA ln, .own nb pb, bA la, .own na pa]]) (n := 0) (y := [iA ln, .own nb pb, bA la, .own na pa]) rfl rfl rfl rfl rfl (by kernel_rfl) (by decide)) ?_
 refine vD (v := .agg [iA ln, .own nb pb, bA la, .own na pa]) rfl rfl rfl rfl (fun _ hi => Exact.load rfl rfl hi.2 rfl rfl) ?_
 refine vE rfl rfl rfl rfl (vC (z := [iA 0, .own 0 none, bA false, .own 0 none]) rfl rfl hH fun g3 H' hH => ⟨⟨hH.cell (i := 2) rfl, hH.row (i := 3) rfl⟩, ?_⟩)
 refine vE rfl rfl rfl rfl (uQ (cs' := [iA ln, .own nb pb, bA la, .own na pa]) (v := .agg [iA ln, .own nb pb, bA la, .own na pa]) rfl rfl hH (i := 0) rfl rfl rfl rfl rfl rfl rfl fun H' hH => ⟨⟨hH.cell (i := 2) rfl, hH.row (i := 3) rfl⟩, ?_⟩)
 refine WpPi.nil ?_
 refine vO [.I, .I, .I, .I, .S, .I, .I, .I, .S, .I, .I, .S, .I, .I, .E] [0, 1, 2, 3, 4, 5, 6, 7, 8, 9, 10, 11, 12, 13, 14] (by kernel_rfl) (by kernel_rfl) ?_
 refine uK 4 rfl trivial ?_
 refine uT (v := .own 1 (some (go, c))) rfl rfl rfl rfl (Exact.load rfl rfl (hH.cell (i := 2) rfl) rfl rfl) ?_
 refine uK 3 rfl trivial ?_
 refine uT (v := .own 1 (some (go, c))) rfl rfl rfl rfl (Exact.load rfl rfl (hH.cell (i := 2) rfl) rfl rfl) ?_
 refine uK 2 rfl (show -9223372036854775808 ≤ ((1 : Nat) : Int) - 1 ∧ ((1 : Nat) : Int) - 1 ≤ 9223372036854775807 from ⟨by omega, by omega⟩) ?_
 refine uT (v := .own 0 (some (go, c))) rfl rfl rfl rfl (Exact.slice_buf (k := 0) (size := 4) rfl rfl rfl (hH.row (i := 3) rfl) (Nat.le_refl _) (Nat.zero_le _) rfl rfl (by decide)) ?_
 refine uK 2 rfl trivial ?_
 refine vM rfl rfl rfl rfl (uQ (cs' := [.own 0 (some (go, c))]) (v := .own 0 (some (go, c))) rfl rfl hH (i := 2) rfl rfl rfl rfl rfl rfl rfl fun H' hH => ?_)
 refine WpPi.nil ?_
 refine uC ?_
 refine uB (v := .agg [iA ln, .own nb pb, bA la, .own na pa]) rfl rfl (Exact.load rfl rfl (hH.cell (i := 0) rfl) rfl rfl) ?_
 refine uE rfl rfl (uQ (cs' := [iA ln, .own nb pb, bA la, .own na pa]) (v := .agg [iA ln, .own nb pb, bA la, .own na pa]) rfl rfl hH (i := 1) rfl rfl rfl rfl rfl rfl rfl fun H' hH => ?_)
 refine WpOps.nil ?_
 have hH : Holds H0 [.cell g3 178 [iA ln, .own nb pb, bA la, .own na pa], .cell g2 178 [iA ln, .own nb pb, bA la, .own na pa], .cell gs 174 [.own 0 (some (go, c))], .own 178 4 (some (go, c)) [[iA ln, .own nb pb, bA la, .own na pa]]] _ := hH
 obtain ⟨H2, hw, hH⟩ := row0_holds (i := 3) hH rfl
 refine WpC.weak hw ?_
 refine WpC.ret ?_
 have rv := hH.cell (i := 1) rfl
 obtain ⟨_, hle1, hH⟩ := hH.lose_ (i := 0) rfl
 obtain ⟨_, hle2, hH⟩ := hH.lose_ (i := 0) rfl
 exact vZ rfl (.cell rfl rv rfl rfl .nil) ⟨_, _, Up.drop (uY hle2 hle1) _, rfl, hH⟩
def PSlots (lines : List GLine) (i : Nat) (gs : Nat) (n : Nat) (p : Option (Nat × Nat)) : List (Nat × AV) := [(2, .own n p), (5, pK gs), (10, .rows 4 (lines.map cGLine)), (11, iA lines.length), (12, iA i)]
def PRes (gs : Nat) : PSt → (Option (Nat × Nat)) × (Option (Nat × Nat)) × (Option (Nat × Nat)) × (Option (Nat × Nat)) → List Res
 | .shut items, (po, pi, _, _) => [.own 186 3 pi (items.map cGItem), .cell gs 174 [.own 0 po], .own 178 4 po []]
 | .open_ o leaves, (po, pl, pb, pa) => [.own 186 3 pl (leaves.map cGLeaf), .cell gs 174 [.own 1 po], .own 178 4 po [[iA o.line_, .own (o.branches.map cGBranch).length pb, bA o.last, .own (o.ahead.map cGItem).length pa]], .own 180 2 pb (o.branches.map cGBranch), .own 186 3 pa (o.ahead.map cGItem)]
def PLen : PSt → Nat
 | .shut items => (items.map cGItem).length
 | .open_ _ leaves => (leaves.map cGLeaf).length
def PFit (i : Nat) : PSt → Prop
 | .shut items => items.length ≤ i
 | .open_ o leaves => o.branches ≠ [] ∧ o.branches.length ≤ i ∧ o.ahead.length ≤ i ∧ leaves.length ≤ i
theorem w_cond_Parse {H0 : Heap} {lines : List GLine} {r : List GItem × Int × Int} (h : cond_Parse lines = some r) : TCall Tryz.prog 57 [.rows 4 (lines.map cGLine)] H0 (fun v H' => v = .tup [.rows 3 (r.1.map cGItem), iA r.2.1, iA r.2.2] ∧ H' = H0) noE := by
  obtain ⟨hl, h⟩ := Sh.chk_some h
  obtain ⟨sE, hs, h⟩ := Sh.bind_some h
  obtain ⟨itemsE, rfl⟩ : ∃ items, sE = .shut items := by
    cases sE with
    | shut items => exact ⟨_, rfl⟩
    | open_ o l => cases h
  obtain rfl := Sh.some_inj h
  refine TCall.up (TCall.body Tryz.func57 rfl rfl ?_)
  have hix : ∀ i, (h : i < lines.length) → Sh.ix lines (i : Int) = some lines[i] := fun i h => by rw [Sh.ix_nat]; exact List.getElem?_eq_getElem h
  have hH : Holds H0 [] H0 := rfl
  refine uC ?_
  refine uA 3 rfl trivial ?_
  refine WpOps.nil ?_
  refine uC ?_
  refine uE rfl rfl (vC (z := [.own 0 none]) rfl rfl hH fun gs H' hH => ?_)
  have hH := (hH.nil 178 4).back 1
  have hH := hH.nil 186 3
  refine WpOps.nil ?_
  refine WpC.seq ?_
  refine uC ?_
  refine uA 2 rfl trivial ?_
  refine uN 11 (len_map _ _) ?_
  refine uA 1 rfl trivial ?_
  refine WpOps.nil ?_
  refine WpC.block ?_
  refine WpC.loop (fun n env H => ∃ (i : Nat) (s : PSt) (ps : (Option (Nat × Nat)) × (Option (Nat × Nat)) × (Option (Nat × Nat)) × (Option (Nat × Nat))), n = lines.length - i ∧ i ≤ lines.length ∧ parseFrom i (lines.drop i) s = some (.shut itemsE) ∧ PFit i s ∧ knows env (PSlots lines i gs (PLen s) ps.2.1) ∧ Holds H0 (PRes gs s ps) H) _ ⟨0, .shut [], (none, none, none, none), rfl, Nat.zero_le _, hs, Nat.zero_le _, ⟨rfl, rfl, rfl, rfl, rfl, trivial⟩, hH⟩ ?_
  clear hH hs
  rintro n env H ⟨i, s, ps, rfl, hi, hs, hf, hk, hH⟩
  rw [← hk.eq]
  refine uC ?_
  refine uA 1 rfl trivial ?_
  refine WpOps.nil ?_
  refine WpC.seq ?_
  refine uF rfl (fun hb => ?_) (fun hb => ?_)
  · have hlt : i < lines.length := by simpa using hb
    rw [List.drop_eq_getElem_cons hlt] at hs
    unfold parseFrom at hs
    obtain ⟨s2, hstep, hs⟩ := Sh.bind_some hs
    refine WpC.skip ?_
    refine WpC.seq ?_
    refine WpC.block ?_
    refine uC ?_
    refine uA 1 rfl trivial ?_
    refine uB (v := .rop (cGLine lines[i])) rfl rfl (uR cGLine (hix i hlt) rfl rfl rfl rfl (by kernel_rfl) (by decide)) ?_
    refine uB (v := .agg (cGLine lines[i])) rfl rfl (uG rfl rfl rfl) ?_
    refine uE rfl rfl (vK (z' := cGLine (GLine.mk (0 : Int) (0 : Int) (0 : Int) ([] : List GTok))) rfl rfl (.cons (.refl _) (.cons (.refl _) (.cons (.refl _) (.cons (Sub.nil _) .nil)))) hH fun g7 H' hH => ?_)
    refine uA 1 rfl trivial ?_
    refine uE rfl rfl (uQ (cs' := (cGLine lines[i])) (v := (AV.agg (cGLine lines[i]))) rfl rfl hH (i := 0) rfl rfl rfl rfl rfl rfl rfl fun H' hH => ?_)
    refine WpOps.nil ?_
    refine uC ?_
    refine uA 1 rfl trivial ?_
    refine uB (v := iA lines[i].kind) rfl rfl (Exact.load rfl rfl (hH.cell (i := 0) rfl) rfl rfl) ?_
    refine WpOps.nil ?_
    obtain ⟨k, hkk⟩ : ∃ k, k = lines[i].kind := ⟨_, rfl⟩
    rw [← hkk] at hstep
    refine WpC.at 18 (v := iA k) (by rw [hkk]; rfl) ?_
    have hlist : ∀ (x : Nat), x ≤ i → (x + 1) * 64 ≤ 140737488355328 := fun x hx => by omega
    refine WpC.block ?_
    refine vG (fun b : Bool => [(2, .own (PLen s) ps.2.1), (5, pK gs), (6, iA i), (7, pK g7), (10, .rows 4 (lines.map cGLine)), (11, iA lines.length), (12, iA i), (18, iA k), (25, bA b)]) (fun b H2 => b = decide (k = 2 ∨ k = 3 ∨ k = 4) ∧ Holds H0 (.cell g7 57 (cGLine lines[i]) :: PRes gs s ps) H2) ?_ ?_
    · refine uC ?_
      refine uA 2 rfl trivial ?_
      refine WpOps.nil ?_
      refine uF rfl (fun hb => ?_) (fun hb => ?_)
      · refine WpC.skip ?_
        exact ⟨_, ⟨rfl, rfl, rfl, rfl, rfl, rfl, rfl, rfl, rfl, trivial⟩, by simp at hb ⊢; simp [hb], hH⟩
      refine uC ?_
      refine uA 2 rfl trivial ?_
      refine WpOps.nil ?_
      refine uF rfl (fun hb2 => ?_) (fun hb2 => ?_)
      · refine WpC.skip ?_
        exact ⟨_, ⟨rfl, rfl, rfl, rfl, rfl, rfl, rfl, rfl, rfl, trivial⟩, by simp at hb hb2 ⊢; simp [hb2], hH⟩
      refine WpC.region ?_
      refine uA 2 rfl trivial ?_
      refine WpOps.nil ?_
      exact ⟨_, ⟨rfl, rfl, rfl, rfl, rfl, rfl, rfl, rfl, rfl, trivial⟩, by simp at hb hb2; simp [hb, hb2], hH⟩
    clear hH
    rintro b env H2 ⟨hb0, hH⟩
    refine uF rfl (fun hb => ?_) (fun hb => ?_)
    · -- one opens
      have h234 : k = 2 ∨ k = 3 ∨ k = 4 := by rw [show b = true from hb] at hb0; simpa using hb0.symm
      cases s with
      | open_ o l => simp only [parseStep, if_pos h234] at hstep; cases hstep
      | shut items =>
        simp only [parseStep, if_pos h234, Option.some.injEq] at hstep
        subst hstep
        obtain ⟨po, pi, pb, pa⟩ := ps
        have hH : Holds H0 [.cell g7 57 (cGLine lines[i]), .own 186 3 pi (items.map cGItem), .cell gs 174 [.own 0 po], .own 178 4 po []] H2 := hH
        refine uC ?_
        refine uA 2 rfl trivial ?_
        refine uB (v := .agg (cGBranch { line_ := i, items := [] })) rfl rfl (wG rfl (Sub.agg (.cons (.refl _) (.cons (Sub.nil _) .nil))) trivial) ?_
        refine uE rfl rfl (WpO.litT (size := 2) cGBranch [({ line_ := i, items := [] } : GBranch)] rfl rfl (by kernel_rfl) rfl hH fun gb H' hH => ?_)
        refine uA 2 rfl trivial ?_
        have hH := hH.front (i := 4) rfl
        have hH := hH.front (i := 4) rfl
        have hH : Holds H0 [.cell gs 174 [.own 0 po], .own 178 4 po [], .own 180 2 (some (gb, 1)) ([({ line_ := i, items := [] } : GBranch)].map cGBranch), .cell g7 57 (cGLine lines[i]), .own 186 3 pi (items.map cGItem)] _ := hH
        refine uE rfl rfl (vI 2 (V := fun b : Option (Nat × Nat) => .tup []) (A := fun b => [.cell gs 174 [.own 1 b], .own 178 4 b [[iA i, .own ([({ line_ := i, items := [] } : GBranch)].map cGBranch).length (some (gb, 1)), bA false, .own (items.map cGItem).length pi]]]) rfl rfl rfl hH (fun H1 hl hh => w_push hh) fun bo H' hH => ?_)
        refine WpOps.nil ?_
        have hH : Holds H0 [.cell gs 174 [.own 1 bo], .own 178 4 bo [[iA i, .own ([({ line_ := i, items := [] } : GBranch)].map cGBranch).length (some (gb, 1)), bA false, .own (items.map cGItem).length pi]], .own 180 2 (some (gb, 1)) ([({ line_ := i, items := [] } : GBranch)].map cGBranch), .cell g7 57 (cGLine lines[i]), .own 186 3 pi (items.map cGItem)] _ := hH
        refine uP (i := 3) hH rfl (fun H' hH => ?_)
        have hH := hH.nil 186 3
        refine WpC.region ?_
        refine uA 1 rfl trivial ?_
        refine WpOps.nil ?_
        refine WpC.region ?_
        refine uA 2 rfl (show -9223372036854775808 ≤ (i : Int) + 1 ∧ (i : Int) + 1 ≤ 9223372036854775807 from ⟨by omega, by omega⟩) ?_
        refine WpOps.nil ?_
        have hf : items.length ≤ i := hf
        exact ⟨lines.length - (i + 1), by omega, i + 1, _, (bo, none, some (gb, 1), pi), rfl, by omega, hs, ⟨by simp, by simp, by show items.length ≤ i + 1; omega, by simp⟩, ⟨rfl, rfl, rfl, rfl, rfl, trivial⟩, hH⟩
    have h234 : ¬ (k = 2 ∨ k = 3 ∨ k = 4) := by rw [show b = false from hb] at hb0; simpa using hb0.symm
    refine vG (fun b : Bool => [(2, .own (PLen s) ps.2.1), (5, pK gs), (6, iA i), (7, pK g7), (10, .rows 4 (lines.map cGLine)), (11, iA lines.length), (12, iA i), (18, iA k), (36, bA b)]) (fun b H2 => b = decide (k = 5 ∨ k = 6) ∧ Holds H0 (.cell g7 57 (cGLine lines[i]) :: PRes gs s ps) H2) ?_ ?_
    · refine uC ?_
      refine uA 2 rfl trivial ?_
      refine WpOps.nil ?_
      refine uF rfl (fun hb => ?_) (fun hb => ?_)
      · refine WpC.skip ?_
        exact ⟨_, ⟨rfl, rfl, rfl, rfl, rfl, rfl, rfl, rfl, rfl, trivial⟩, by simp at hb ⊢; simp [hb], hH⟩
      refine WpC.region ?_
      refine uA 2 rfl trivial ?_
      refine WpOps.nil ?_
      exact ⟨_, ⟨rfl, rfl, rfl, rfl, rfl, rfl, rfl, rfl, rfl, trivial⟩, by simp at hb; simp [hb], hH⟩
    clear hH hb0 hb
    rintro b env H2 ⟨hb0, hH⟩
    refine uF rfl (fun hb => ?_) (fun hb => ?_)
    · -- another branch
      have h56 : k = 5 ∨ k = 6 := by rw [show b = true from hb] at hb0; simpa using hb0.symm
      cases s with
      | shut items => simp only [parseStep, if_neg h234, if_pos (show k = 5 ∨ k = 6 ∨ k = 7 by omega)] at hstep; cases hstep
      | open_ o leaves =>
        simp only [parseStep, if_neg h234, if_pos h56] at hstep
        have hlast : o.last = false := by
          cases h : o.last with
          | false => rfl
          | true => rw [h] at hstep; cases hstep
        rw [hlast] at hstep
        simp only [Bool.false_eq_true, if_false, Option.some.injEq] at hstep
        subst hstep
        obtain ⟨f1, f2, f3, f4⟩ := hf
        obtain ⟨po, pl, pb, pa⟩ := ps
        have hH : Holds H0 [.cell g7 57 (cGLine lines[i]), .own 186 3 pl (leaves.map cGLeaf), .cell gs 174 [.own 1 po], .own 178 4 po [[iA o.line_, .own (o.branches.map cGBranch).length pb, bA o.last, .own (o.ahead.map cGItem).length pa]], .own 180 2 pb (o.branches.map cGBranch), .own 186 3 pa (o.ahead.map cGItem)] H2 := hH
        obtain ⟨go, c, rfl⟩ := hH.grown (i := 3) rfl (by simp)
        refine WpC.seq ?_
        refine uC ?_
        refine uA 1 rfl trivial ?_
        refine uB (v := .own 1 (some (go, c))) rfl rfl (Exact.load rfl rfl (hH.cell (i := 2) rfl) rfl rfl) ?_
        refine uA 3 rfl trivial ?_
        refine uB (v := pK go) rfl rfl (Exact.call rfl rfl rfl (w_top (hH.cell (i := 2) rfl))) ?_
        refine uA 2 rfl trivial ?_
        refine uB (v := bA o.last) rfl rfl (Exact.load rfl rfl (hH.row (i := 3) rfl) rfl rfl) ?_
        refine uN 47 (v := bA false) (by rw [hlast]; rfl) ?_
        refine uA 1 rfl trivial ?_
        refine WpOps.nil ?_
        refine wI rfl ?_
        refine WpC.skip ?_
        refine uC ?_
        refine uB (v := pK go) rfl rfl (Exact.call rfl rfl rfl (w_top (hH.cell (i := 2) rfl))) ?_
        refine uA 1 rfl trivial ?_
        refine WpOps.nil ?_
        refine vJ (t := 2) (i := 1) hH rfl rfl (fun H' hH => ?_)
        refine uC ?_
        refine uA 2 rfl trivial ?_
        refine uE rfl rfl (vH (v := .tup []) rfl rfl rfl hH (i := 3) rfl (fun H1 hl hh => w_ends (hH.row (i := 2) rfl) rfl f1 (by omega) hh) fun H' hH => ?_)
        refine WpOps.nil ?_
        have hH : Holds H0 [.cell g7 57 (cGLine lines[i]), .cell gs 174 [.own 1 (some (go, c))], .own 178 4 (some (go, c)) [[iA o.line_, .own (o.branches.map cGBranch).length pb, bA o.last, .own (o.ahead.map cGItem).length pa]], .own 180 2 pb ((endB o.branches leaves).map cGBranch), .own 186 3 pa (o.ahead.map cGItem)] _ := hH
        refine uC ?_
        refine uA 4 rfl trivial ?_
        refine uB (v := .own (o.branches.map cGBranch).length pb) rfl rfl (Exact.load rfl rfl (hH.row (i := 2) rfl) rfl rfl) ?_
        refine uN 58 (v := .own ((endB o.branches leaves).map cGBranch).length pb) (congrArg (fun n => AV.own n pb) (show (o.branches.map cGBranch).length = ((endB o.branches leaves).map cGBranch).length by rw [List.length_map, List.length_map, endB_len])) ?_
        refine uA 1 rfl trivial ?_
        refine uB (v := .agg (cGBranch { line_ := i, items := [] })) rfl rfl (wG rfl (Sub.agg (.cons (.refl _) (.cons (Sub.nil _) .nil))) trivial) ?_
        refine uB (v := .rows 2 ([({ line_ := i, items := [] } : GBranch)].map cGBranch)) rfl rfl (uW rfl (by kernel_rfl)) ?_
        refine uE rfl rfl (vL cGBranch (endB o.branches leaves) [({ line_ := i, items := [] } : GBranch)] (i := 3) rfl ekB hH rfl rfl rfl (.rows _) (fun y _ => one_cGBranch y) (by simp) (by rw [endB_len]; simp only [List.length_cons, List.length_nil]; omega) (by decide) fun pb' H' hH => ?_)
        refine uA 2 rfl trivial ?_
        refine uE rfl rfl (wA (fun x : List AV => x) (l := [[iA o.line_, .own (o.branches.map cGBranch).length pb, bA o.last, .own (o.ahead.map cGItem).length pa]]) (n := 0) (y := [iA o.line_, .own (o.branches.map cGBranch).length pb, bA o.last, .own (o.ahead.map cGItem).length pa]) (off := 1) (i := 2) (y' := [iA o.line_, .own ((endB o.branches leaves ++ [({ line_ := i, items := [] } : GBranch)]).map cGBranch).length pb', bA o.last, .own (o.ahead.map cGItem).length pa]) (v := .own ((endB o.branches leaves ++ [({ line_ := i, items := [] } : GBranch)]).map cGBranch).length pb') rfl hH rfl rfl rfl rfl rfl rfl rfl rfl rfl fun H' hH => ?_)
        refine WpOps.nil ?_
        have hH : Holds H0 [.cell g7 57 (cGLine lines[i]), .cell gs 174 [.own 1 (some (go, c))], .own 178 4 (some (go, c)) [[iA o.line_, .own ((endB o.branches leaves ++ [({ line_ := i, items := [] } : GBranch)]).map cGBranch).length pb', bA o.last, .own (o.ahead.map cGItem).length pa]], .own 180 2 pb' ((endB o.branches leaves ++ [({ line_ := i, items := [] } : GBranch)]).map cGBranch), .own 186 3 pa (o.ahead.map cGItem)] _ := hH
        refine uC ?_
        refine uA 2 rfl trivial ?_
        refine uB (v := iA lines[i].kind) rfl rfl (Exact.load rfl rfl (hH.cell (i := 0) rfl) rfl rfl) ?_
        refine uN 67 (v := iA k) (by rw [hkk]; rfl) ?_
        refine uA 3 rfl trivial ?_
        refine uE rfl rfl (wA (fun x : List AV => x) (l := [[iA o.line_, .own ((endB o.branches leaves ++ [({ line_ := i, items := [] } : GBranch)]).map cGBranch).length pb', bA o.last, .own (o.ahead.map cGItem).length pa]]) (n := 0) (y := [iA o.line_, .own ((endB o.branches leaves ++ [({ line_ := i, items := [] } : GBranch)]).map cGBranch).length pb', bA o.last, .own (o.ahead.map cGItem).length pa]) (off := 2) (i := 2) (y' := [iA o.line_, .own ((endB o.branches leaves ++ [({ line_ := i, items := [] } : GBranch)]).map cGBranch).length pb', bA (decide (k = 6)), .own (o.ahead.map cGItem).length pa]) (v := bA (decide (k = 6))) rfl hH rfl rfl rfl rfl rfl rfl rfl rfl rfl fun H' hH => ?_)
        refine WpOps.nil ?_
        have hH : Holds H0 [.cell g7 57 (cGLine lines[i]), .cell gs 174 [.own 1 (some (go, c))], .own 178 4 (some (go, c)) [[iA o.line_, .own ((endB o.branches leaves ++ [({ line_ := i, items := [] } : GBranch)]).map cGBranch).length pb', bA (decide (k = 6)), .own (o.ahead.map cGItem).length pa]], .own 180 2 pb' ((endB o.branches leaves ++ [({ line_ := i, items := [] } : GBranch)]).map cGBranch), .own 186 3 pa (o.ahead.map cGItem)] _ := hH
        refine uP (i := 0) hH rfl (fun H' hH => ?_)
        have hH := hH.nil 186 3
        refine WpC.region ?_
        refine uA 1 rfl trivial ?_
        refine WpOps.nil ?_
        refine WpC.region ?_
        refine uA 2 rfl (show -9223372036854775808 ≤ (i : Int) + 1 ∧ (i : Int) + 1 ≤ 9223372036854775807 from ⟨by omega, by omega⟩) ?_
        refine WpOps.nil ?_
        exact ⟨lines.length - (i + 1), by omega, i + 1, _, (some (go, c), none, pb', pa), rfl, by omega, hs, ⟨by simp, by show (endB o.branches leaves ++ [_]).length ≤ i + 1; rw [List.length_append, endB_len]; simp only [List.length_cons, List.length_nil]; omega, by show o.ahead.length ≤ i + 1; omega, by simp⟩, ⟨rfl, rfl, rfl, rfl, rfl, trivial⟩, hH⟩
    have h56 : ¬ (k = 5 ∨ k = 6) := by rw [show b = false from hb] at hb0; simpa using hb0.symm
    refine uC ?_
    refine uA 2 rfl trivial ?_
    refine WpOps.nil ?_
    refine uF rfl (fun hb => ?_) (fun hb => ?_)
    · -- one is shut
      have h7 : k = 7 := by simpa using hb
      cases s with
      | shut items => simp only [parseStep, if_neg h234, if_pos (show k = 5 ∨ k = 6 ∨ k = 7 by omega)] at hstep; cases hstep
      | open_ o leaves =>
        simp only [parseStep, if_neg h234, if_neg h56, if_pos h7, Option.some.injEq] at hstep
        subst hstep
        obtain ⟨f1, f2, f3, f4⟩ := hf
        obtain ⟨po, pl, pb, pa⟩ := ps
        have hH : Holds H0 [.cell g7 57 (cGLine lines[i]), .own 186 3 pl (leaves.map cGLeaf), .cell gs 174 [.own 1 po], .own 178 4 po [[iA o.line_, .own (o.branches.map cGBranch).length pb, bA o.last, .own (o.ahead.map cGItem).length pa]], .own 180 2 pb (o.branches.map cGBranch), .own 186 3 pa (o.ahead.map cGItem)] H2 := hH
        obtain ⟨go, c, rfl⟩ := hH.grown (i := 3) rfl (by simp)
        refine WpC.seq ?_
        refine uC ?_
        refine uA 1 rfl trivial ?_
        refine uB (v := .own 1 (some (go, c))) rfl rfl (Exact.load rfl rfl (hH.cell (i := 2) rfl) rfl rfl) ?_
        refine uA 2 rfl trivial ?_
        refine WpOps.nil ?_
        refine wI rfl ?_
        refine WpC.skip ?_
        refine vJ (t := 2) (i := 1) hH rfl rfl (fun H' hH => ?_)
        have hH := hH.front (i := 2) rfl
        have hH := hH.front (i := 2) rfl
        have hH : Holds H0 [.cell gs 174 [.own 1 (some (go, c))], .own 178 4 (some (go, c)) [[iA o.line_, .own (o.branches.map cGBranch).length pb, bA o.last, .own (o.ahead.map cGItem).length pa]], .cell g7 57 (cGLine lines[i]), .own 180 2 pb (o.branches.map cGBranch), .own 186 3 pa (o.ahead.map cGItem)] _ := hH
        refine uC ?_
        refine uE rfl rfl (vI 2 (V := fun b : Unit => .agg [iA o.line_, .own (o.branches.map cGBranch).length pb, bA o.last, .own (o.ahead.map cGItem).length pa]) (A := fun b => [.cell gs 174 [.own 0 (some (go, c))], .own 178 4 (some (go, c)) []]) rfl rfl rfl hH (fun H1 hl hh => (w_pop hh).mono (fun v H' h => ⟨(), h⟩) (fun _ _ h => h)) fun _ H' hH => ?_)
        refine uE rfl rfl (vC (z := [iA 0, .own 0 none, bA false, .own 0 none]) rfl rfl hH fun g9 H' hH => ?_)
        refine uE rfl rfl (uQ (cs' := [iA o.line_, .own (o.branches.map cGBranch).length pb, bA o.last, .own (o.ahead.map cGItem).length pa]) (v := .agg [iA o.line_, .own (o.branches.map cGBranch).length pb, bA o.last, .own (o.ahead.map cGItem).length pa]) rfl rfl hH (i := 0) rfl rfl rfl rfl rfl rfl rfl fun H' hH => ?_)
        refine WpOps.nil ?_
        have hH : Holds H0 [.cell g9 178 [iA o.line_, .own (o.branches.map cGBranch).length pb, bA o.last, .own (o.ahead.map cGItem).length pa], .cell gs 174 [.own 0 (some (go, c))], .own 178 4 (some (go, c)) [], .cell g7 57 (cGLine lines[i]), .own 180 2 pb (o.branches.map cGBranch), .own 186 3 pa (o.ahead.map cGItem)] _ := hH
        refine uC ?_
        refine uA 1 rfl trivial ?_
        refine uE rfl rfl (vH (v := .tup []) rfl rfl rfl hH (i := 4) rfl (fun H1 hl hh => w_ends (hH.cell (i := 0) rfl) rfl f1 (by omega) hh) fun H' hH => ?_)
        refine WpOps.nil ?_
        have hH : Holds H0 [.cell g9 178 [iA o.line_, .own (o.branches.map cGBranch).length pb, bA o.last, .own (o.ahead.map cGItem).length pa], .cell gs 174 [.own 0 (some (go, c))], .own 178 4 (some (go, c)) [], .cell g7 57 (cGLine lines[i]), .own 180 2 pb ((endB o.branches leaves).map cGBranch), .own 186 3 pa (o.ahead.map cGItem)] _ := hH
        refine WpC.region ?_
        refine uA 1 rfl trivial ?_
        refine uB (v := .own (o.ahead.map cGItem).length pa) rfl rfl (Exact.load rfl rfl (hH.cell (i := 0) rfl) rfl rfl) ?_
        refine uA 1 rfl trivial ?_
        refine uB (v := iA o.line_) rfl rfl (Exact.load rfl rfl (hH.cell (i := 0) rfl) rfl rfl) ?_
        refine uA 2 rfl trivial ?_
        refine uB (v := .own (o.branches.map cGBranch).length pb) rfl rfl (Exact.load rfl rfl (hH.cell (i := 0) rfl) rfl rfl) ?_
        refine uN 87 (v := .own ((endB o.branches leaves).map cGBranch).length pb) (congrArg (fun n => AV.own n pb) (show (o.branches.map cGBranch).length = ((endB o.branches leaves).map cGBranch).length by rw [List.length_map, List.length_map, endB_len])) ?_
        refine uE rfl rfl (WpO.thawK (t := 87) (i := 4) (v := .agg (cGItem { line_ := o.line_, end_ := i, branches := endB o.branches leaves })) hH rfl rfl (fun H' hH => Exact.pv rfl trivial) fun H' hH => ?_)
        refine uB (v := .rows 3 ([({ line_ := o.line_, end_ := i, branches := endB o.branches leaves } : GItem)].map cGItem)) rfl rfl (uW rfl (by kernel_rfl)) ?_
        refine uE rfl rfl (vL cGItem o.ahead [({ line_ := o.line_, end_ := i, branches := endB o.branches leaves } : GItem)] (i := 4) rfl ekI hH rfl rfl rfl (.rows _) (fun y _ => one_cGItem y) (by simp) (by simp only [List.length_cons, List.length_nil]; omega) (by decide) fun pa' H' hH => ?_)
        refine uA 1 rfl trivial ?_
        refine WpOps.nil ?_
        have hH : Holds H0 [.cell g9 178 [iA o.line_, .own (o.branches.map cGBranch).length pb, bA o.last, .own (o.ahead.map cGItem).length pa], .cell gs 174 [.own 0 (some (go, c))], .own 178 4 (some (go, c)) [], .cell g7 57 (cGLine lines[i]), .own 186 3 pa' ((o.ahead ++ [({ line_ := o.line_, end_ := i, branches := endB o.branches leaves } : GItem)]).map cGItem)] _ := hH
        refine uP (i := 3) hH rfl (fun H' hH => ?_)
        refine uP (i := 0) hH rfl (fun H' hH => ?_)
        have hH := hH.front (i := 2) rfl
        refine WpC.region ?_
        refine uA 2 rfl (show -9223372036854775808 ≤ (i : Int) + 1 ∧ (i : Int) + 1 ≤ 9223372036854775807 from ⟨by omega, by omega⟩) ?_
        refine WpOps.nil ?_
        exact ⟨lines.length - (i + 1), by omega, i + 1, _, (some (go, c), pa', none, none), rfl, by omega, hs, (show (o.ahead ++ [_]).length ≤ i + 1 by rw [List.length_append]; simp only [List.length_cons, List.length_nil]; omega), ⟨rfl, rfl, rfl, rfl, rfl, trivial⟩, hH⟩
    -- a line that is no conditional
    have h7 : ¬ k = 7 := by simpa using hb
    cases s with
    | shut items =>
      simp only [parseStep, if_neg h234, if_neg (show ¬ (k = 5 ∨ k = 6 ∨ k = 7) by omega), Option.some.injEq] at hstep
      subst hstep
      have hf : items.length ≤ i := hf
      obtain ⟨po, pi, pb, pa⟩ := ps
      have hH : Holds H0 [.cell g7 57 (cGLine lines[i]), .own 186 3 pi (items.map cGItem), .cell gs 174 [.own 0 po], .own 178 4 po []] H2 := hH
      refine WpC.region ?_
      refine uA 3 rfl trivial ?_
      refine uB (v := .agg (cGItem { line_ := i, end_ := i, branches := [] })) rfl rfl (wG rfl (Sub.agg (.cons (.refl _) (.cons (.refl _) (.cons (Sub.nil _) .nil)))) trivial) ?_
      refine uB (v := .rows 3 ([({ line_ := i, end_ := i, branches := [] } : GItem)].map cGItem)) rfl rfl (uW rfl (by kernel_rfl)) ?_
      refine uE rfl rfl (vL cGItem items [({ line_ := i, end_ := i, branches := [] } : GItem)] (i := 1) rfl ekI hH rfl rfl rfl (.rows _) (fun y _ => one_cGItem y) (by simp) (by simp only [List.length_cons, List.length_nil]; omega) (by decide) fun pi' H' hH => ?_)
      refine uA 1 rfl trivial ?_
      refine WpOps.nil ?_
      refine uP (i := 0) hH rfl (fun H' hH => ?_)
      refine WpC.region ?_
      refine uA 2 rfl (show -9223372036854775808 ≤ (i : Int) + 1 ∧ (i : Int) + 1 ≤ 9223372036854775807 from ⟨by omega, by omega⟩) ?_
      refine WpOps.nil ?_
      exact ⟨lines.length - (i + 1), by omega, i + 1, _, (po, pi', none, none), rfl, by omega, hs, (show (items ++ [_]).length ≤ i + 1 by rw [List.length_append]; simp only [List.length_cons, List.length_nil]; omega), ⟨rfl, rfl, rfl, rfl, rfl, trivial⟩, hH⟩
    | open_ o leaves =>
      simp only [parseStep, if_neg h234, if_neg h56, if_neg h7, Option.some.injEq] at hstep
      subst hstep
      obtain ⟨f1, f2, f3, f4⟩ := hf
      obtain ⟨po, pl, pb, pa⟩ := ps
      have hH : Holds H0 [.cell g7 57 (cGLine lines[i]), .own 186 3 pl (leaves.map cGLeaf), .cell gs 174 [.own 1 po], .own 178 4 po [[iA o.line_, .own (o.branches.map cGBranch).length pb, bA o.last, .own (o.ahead.map cGItem).length pa]], .own 180 2 pb (o.branches.map cGBranch), .own 186 3 pa (o.ahead.map cGItem)] H2 := hH
      refine WpC.region ?_
      refine uA 3 rfl trivial ?_
      refine uB (v := .agg (cGLeaf { line_ := i, end_ := i })) rfl rfl (wG rfl (Sub.agg (.cons (.refl _) (.cons (.refl _) (.cons (Sub.nil _) .nil)))) trivial) ?_
      refine uB (v := .rows 3 ([({ line_ := i, end_ := i } : GLeaf)].map cGLeaf)) rfl rfl (uW rfl (by kernel_rfl)) ?_
      refine uE rfl rfl (vL cGLeaf leaves [({ line_ := i, end_ := i } : GLeaf)] (i := 1) rfl ekI hH rfl rfl rfl (.rows _) (fun y _ => one_cGLeaf y) (by simp) (by simp only [List.length_cons, List.length_nil]; omega) (by decide) fun pl' H' hH => ?_)
      refine uA 1 rfl trivial ?_
      refine WpOps.nil ?_
      refine uP (i := 0) hH rfl (fun H' hH => ?_)
      refine WpC.region ?_
      refine uA 2 rfl (show -9223372036854775808 ≤ (i : Int) + 1 ∧ (i : Int) + 1 ≤ 9223372036854775807 from ⟨by omega, by omega⟩) ?_
      refine WpOps.nil ?_
      exact ⟨lines.length - (i + 1), by omega, i + 1, _, (po, pl', pb, pa), rfl, by omega, hs, ⟨f1, by omega, by omega, (show (leaves ++ [_]).length ≤ i + 1 by rw [List.length_append]; simp only [List.length_cons, List.length_nil]; omega)⟩, ⟨rfl, rfl, rfl, rfl, rfl, trivial⟩, hH⟩
  · have hge : i = lines.length := by
      have : ¬ ((i : Int) < (lines.length : Int)) := by simpa using hb
      omega
    subst hge
    rw [List.drop_length] at hs
    unfold parseFrom at hs
    obtain rfl := Sh.some_inj hs
    obtain ⟨po, pi, pb, pa⟩ := ps
    have hH : Holds H0 [.own 186 3 pi (itemsE.map cGItem), .cell gs 174 [.own 0 po], .own 178 4 po []] H := hH
    refine WpC.exit ?_
    refine WpC.seq ?_
    refine uC ?_
    refine uA 1 rfl trivial ?_
    refine uB (v := .own 0 po) rfl rfl (Exact.load rfl rfl (hH.cell (i := 1) rfl) rfl rfl) ?_
    refine uA 2 rfl trivial ?_
    refine WpOps.nil ?_
    refine wI rfl ?_
    refine WpC.skip ?_
    refine uC ?_
    refine uA 4 rfl trivial ?_
    refine WpOps.nil ?_
    refine vJ (t := 2) (i := 0) hH rfl rfl (fun H' hH => ?_)
    obtain ⟨_, hle1, hH⟩ := hH.lose_ (i := 0) rfl
    obtain ⟨_, hle2, hH⟩ := hH.lose_ (i := 0) rfl
    refine WpC.ret ?_
    exact VEnds.ret3 rfl rfl rfl rfl ⟨_, _, Up.drop (uY hle2 hle1) _, rfl, hH⟩
end Go.Proofs.YtgmpeddopfnioaaGreatDoor
