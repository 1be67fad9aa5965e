/-
  What package bdd computes, contract by contract: an arena of decisions in memory, and what is made in it. (The texts of layer 1, with this seat's numbers.)
-/
import Derived.Test.YtffgaoehhmgbjaaDoorBf
import Derived.Test.YtffgaoehhmgbjaaDoorChecked
import Derived.Test.YtffgaoehhmgbjaaDoorTyz
set_option linter.unusedVariables false
set_option linter.unusedSimpArgs false
set_option maxRecDepth 100000
set_option maxHeartbeats 8000000
namespace Go.Proofs.YtffgaoehhmgbjaaDoor.Arena
open Go Go.Vc Go.Vc.Bdd
attribute [local irreducible] WpC WpOps WpPi WpO Exact TCall VEnds
theorem wrap64 {n : Nat} (h : n < 9223372036854775808) : IntKind.i64.wrap (n : Int) = n := by
  unfold IntKind.wrap; simp [IntKind.bits, IntKind.signed]; omega
theorem pow8 {v : Nat} (h : v ≤ 8) : 2 ^ v ≤ 256 := Nat.pow_le_pow_right (n := 2) (by omega) h
theorem shl1 {v : Nat} (h : v ≤ 8) : IntKind.i64.wrap (1 * 2 ^ (min (Int.toNat (v : Int)) (IntKind.bits .i64))) = ((2 ^ v : Nat) : Int) := by
  have : v = 0 ∨ v = 1 ∨ v = 2 ∨ v = 3 ∨ v = 4 ∨ v = 5 ∨ v = 6 ∨ v = 7 ∨ v = 8 := by omega
  rcases this with rfl | rfl | rfl | rfl | rfl | rfl | rfl | rfl | rfl <;> rfl
theorem shr1 {v s : Nat} (h : v ≤ 8) : (s : Int).fdiv (2 ^ (min (Int.toNat (v : Int)) (IntKind.bits .i64))) = ((s >>> v : Nat) : Int) := by
  have e : min (Int.toNat (v : Int)) (IntKind.bits .i64) = v := by simp [IntKind.bits]; omega
  rw [e, Nat.shiftRight_eq_div_pow]
  have := Int.ofNat_fdiv s (2 ^ v)
  simpa using this.symm
theorem and1 {s : Nat} (h : s < 9223372036854775808) : IntKind.i64.wrap (((BitVec.ofInt (IntKind.bits .i64) (s : Int) &&& BitVec.ofInt (IntKind.bits .i64) 1).toNat : Nat) : Int) = ((s % 2 : Nat) : Int) := by
  have e : (BitVec.ofInt (IntKind.bits .i64) (s : Int) &&& BitVec.ofInt (IntKind.bits .i64) 1).toNat = s % 2 := by
    show (BitVec.ofInt 64 (s : Int) &&& BitVec.ofInt 64 1).toNat = s % 2
    rw [BitVec.toNat_and, BitVec.toNat_ofInt, BitVec.toNat_ofInt]
    have : ((s : Int) % ((2 ^ 64 : Nat) : Int)).toNat = s := by omega
    rw [this]
    exact Nat.and_one_is_mod s
  rw [e]
  exact wrap64 (by omega)
theorem bit1 {s i : Nat} (hs : s < 9223372036854775808) (hi : i ≤ 8) : decide (IntKind.i64.wrap (((BitVec.ofInt (IntKind.bits .i64) ((s : Int).fdiv (2 ^ (min (Int.toNat (i : Int)) (IntKind.bits .i64)))) &&& BitVec.ofInt (IntKind.bits .i64) 1).toNat : Nat) : Int) = 1) = s.testBit i := by
  rw [shr1 hi, and1 (by have := Nat.shiftRight_le s i; omega)]
  rw [Nat.testBit, Nat.and_comm, Nat.and_one_is_mod]
  have : (s >>> i) % 2 = 0 ∨ (s >>> i) % 2 = 1 := by omega
  rcases this with h | h <;> rw [h] <;> rfl

theorem ltlen {α β : Type} {l : List α} {f : α → β} {k : Nat} : ((k : Int) < (((l.map f).length : Nat) : Int)) ↔ k < l.length := by rw [List.length_map]; exact Int.ofNat_lt


abbrev iA (n : Nat) : AV := .lit (.int .i64 n)
def encD (d : Dec) : List AV := [iA d.name, iA d.off, iA d.on]
def keyD (d : Dec) : Value := .agg ⟨[.int .i64 d.name, .int .i64 d.off, .int .i64 d.on]⟩
theorem keyD_ok (d : Dec) : isKey Tryd.prog 58 (keyD d) = true := by
  have : isKey Tryd.prog 58 (.agg ⟨[.int .i64 d.name, .int .i64 d.off, .int .i64 d.on]⟩) = true := by rfl
  exact this
theorem keyD_inj {d e : Dec} (h : keyD d = keyD e) : d = e := by
  cases d; cases e
  unfold keyD at h
  simp at h
  obtain ⟨h1, h2, h3⟩ := h
  simp only [Dec.mk.injEq]; omega
abbrev pA (g : Nat) : AV := .lit (.pointer (some ⟨g, 0, none⟩))

/-- an arena in memory -/
structure InA (H : Heap) (v : Nat) (ds : List Dec) (g ga c gm : Nat) (es : List (Value × AV)) : Prop where
  box : H g = some (.cells 62 [iA v, .own ds.length (some (ga, c)), .lit (.map (some gm))])
  row : H ga = some (.row 58 3 (ds.map encD) c)
  map : H gm = some (.map es)
  keys : keysOk Tryd.prog 58 es
  known : ∀ d, mget es (keyD d) = (find ds d).map fun n => iA n
  wf : WF v ds

theorem InA.ne1 {H : Heap} {v : Nat} {ds : List Dec} {g ga c gm : Nat} {es : List (Value × AV)} (a : InA H v ds g ga c gm es) : g ≠ ga := by rintro rfl; have := a.box; rw [a.row] at this; cases this
theorem InA.ne2 {H : Heap} {v : Nat} {ds : List Dec} {g ga c gm : Nat} {es : List (Value × AV)} (a : InA H v ds g ga c gm es) : g ≠ gm := by rintro rfl; have := a.box; rw [a.map] at this; cases this
theorem InA.ne3 {H : Heap} {v : Nat} {ds : List Dec} {g ga c gm : Nat} {es : List (Value × AV)} (a : InA H v ds g ga c gm es) : ga ≠ gm := by rintro rfl; have := a.row; rw [a.map] at this; cases this
/-- .. behind a block that is new -/
theorem InA.more {H : Heap} {v : Nat} {ds : List Dec} {g ga c gm : Nat} {es : List (Value × AV)} (a : InA H v ds g ga c gm es) {k : Nat} {o : AObj} (hk : H k = none) : InA (H.set k o) v ds g ga c gm es :=
  ⟨Heap.set_old a.box hk, Heap.set_old a.row hk, Heap.set_old a.map hk, a.keys, a.known, a.wf⟩

theorem dec_ek : ElemOk Tryd.prog 59 58 3 24 := ElemOk.of (by kernel_rfl)
theorem at_dec {ds : List Dec} {n : Nat} {d : Dec} (h : ds[n]? = some d) : (ds.map encD)[n]? = some (encD d) := map_at h

theorem bdd_side {H : Heap} {v : Nat} {ds : List Dec} {g ga c gm : Nat} {es : List (Value × AV)} (a : InA H v ds g ga c gm es) {n name : Nat} {on : Bool} {d : Dec} (hd : ds[n]? = some d) :
    TCall Tryd.prog 54 [pA g, iA n, iA name, .lit (.bool on)] H (fun x H' => x = iA (sideOf d n name on) ∧ H' = H) noE := by
  have hlt := (List.getElem?_eq_some_iff.1 hd).1
  refine TCall.up (TCall.body Tryd.func54 rfl rfl ?_)
  refine WpC.seqR (WpOps.ps rfl trivial (WpOps.nil ?_))
  refine WpC.seqR ?_
  refine WpOps.ps rfl trivial ?_
  refine WpOps.consE rfl rfl (Exact.load rfl rfl a.box rfl rfl) ?_
  refine WpOps.ps rfl trivial ?_
  refine WpOps.consE rfl rfl (Exact.indexAddr_buf (size := 3) rfl rfl rfl hlt rfl rfl (by decide)) ?_
  refine WpOps.consE rfl rfl (Exact.load_row (i := n) (f := 0) rfl rfl a.row rfl (by decide) (at_dec hd) rfl) ?_
  refine WpOps.consG rfl rfl (WpO.alloc rfl rfl fun gd hgd => ?_)
  refine WpOps.consG rfl rfl (WpO.init rfl rfl rfl rfl rfl rfl rfl rfl rfl ?_)
  refine WpOps.nil ?_
  refine WpC.seq ?_
  refine WpC.block ?_
  refine WpC.seqR ?_
  refine WpOps.ps rfl trivial ?_
  refine WpOps.consE rfl rfl (Exact.load rfl rfl (Heap.set_same _ _ _) rfl rfl) ?_
  refine WpOps.cutB 7 17 (.lit (.bool (decide (d.name ≠ name ∨ n < 2)))) rfl ?_ ?_
  · refine WpOps.pn 2 rfl trivial ?_
    refine WpOps.split 21 rfl ?_ ?_
    · intro h
      refine WpOps.ps rfl trivial (WpOps.nil ?_)
      have : d.name ≠ name := fun e => by simp [e] at h
      exact ⟨congrArg (fun b => AV.lit (.bool b)) (decide_eq_true (Or.inl this)).symm, rfl⟩
    · intro h
      refine WpOps.ps rfl trivial (WpOps.nil ?_)
      have : d.name = name := by simp at h; omega
      exact ⟨congrArg (fun b => AV.lit (.bool b)) (decide_eq_decide.2 (by show (n : Int) < 2 ↔ _; omega)), rfl⟩
  intro env0
  refine WpOps.nil ?_
  have fin : ∀ {x : Nat}, x = sideOf d n name on → ∃ u H'', Up (H.set gd (.cells 58 (encD d))) (iA x) H'' u ∧ u = iA (sideOf d n name on) ∧ H'' = H := fun {x} e => ⟨_, _, Up.drop (Heap.set_drop hgd _) _, by rw [e], rfl⟩
  refine WpC.condP rfl ?_ ?_
  · intro hc
    refine WpC.seqR (WpOps.ps rfl trivial (WpOps.nil ?_))
    refine WpC.ret ?_
    refine VEnds.ret1 rfl rfl ?_
    exact fin (by unfold sideOf; rw [if_pos hc])
  · intro hc
    refine WpC.seqR (WpOps.ps rfl trivial (WpOps.nil ?_))
    refine WpC.condB rfl ?_ ?_
    · intro ho
      refine WpC.seqR ?_
      refine WpOps.ps rfl trivial ?_
      refine WpOps.consE rfl rfl (Exact.load rfl rfl (Heap.set_same _ _ _) rfl rfl) ?_
      refine WpOps.ps rfl trivial (WpOps.nil ?_)
      refine WpC.ret ?_
      refine VEnds.ret1 rfl rfl ?_
      exact fin (by unfold sideOf; rw [if_neg hc, if_pos ho])
    · intro ho
      refine WpC.skip ?_
      refine WpC.seqR ?_
      refine WpOps.ps rfl trivial ?_
      refine WpOps.consE rfl rfl (Exact.load rfl rfl (Heap.set_same _ _ _) rfl rfl) ?_
      refine WpOps.ps rfl trivial (WpOps.nil ?_)
      refine WpC.ret ?_
      refine VEnds.ret1 rfl rfl ?_
      exact fin (by unfold sideOf; rw [if_neg hc, if_neg (by rw [ho]; decide)])

/-- what a call that makes decisions leaves of the rest; 'S': the blocks that it may write, beyond the row -/
structure Kept (S : Nat → Prop) (H : Heap) (ga ga' : Nat) (H' : Heap) : Prop where
  keep : ∀ k o, H k = some o → k ≠ ga → ¬ S k → H' k = some o
  fresh : ga' = ga ∨ H ga' = none
theorem Kept.refl (S : Nat → Prop) (H : Heap) (ga : Nat) : Kept S H ga ga H := ⟨fun _ _ h _ _ => h, .inl rfl⟩
theorem Kept.trans {S : Nat → Prop} {H H' H'' : Heap} {ga ga' ga'' : Nat} (h : Kept S H ga ga' H') (k : Kept S H' ga' ga'' H'') (hs : ∀ q, S q → ∃ o, H' q = some o) : Kept S H ga ga'' H'' := by
  refine ⟨fun q o hq h2 h1 => k.keep q o (h.keep q o hq h2 h1) (fun e => ?_) h1, ?_⟩
  · rcases h.fresh with e2 | e2
    · exact h2 (e.trans e2)
    · rw [← e, hq] at e2; cases e2
  · rcases k.fresh with e | e
    · rw [e]; exact h.fresh
    · by_cases hq : ga'' = ga
      · exact .inl hq
      · right
        cases hh : H ga'' with
        | none => rfl
        | some o =>
          exfalso
          have := h.keep ga'' o hh hq (fun hS => by obtain ⟨o1, ho1⟩ := hs _ hS; rw [ho1] at e; cases e)
          rw [e] at this; cases this
theorem Kept.mono {S T : Nat → Prop} {H H' : Heap} {ga ga' : Nat} (h : Kept S H ga ga' H') (hST : ∀ k, S k → T k) : Kept T H ga ga' H' := ⟨fun k o hk h1 h2 => h.keep k o hk h1 (fun hS => h2 (hST k hS)), h.fresh⟩
def SA (g gm : Nat) (k : Nat) : Prop := k = g ∨ k = gm

theorem bdd_made {H : Heap} {v : Nat} {ds : List Dec} {g ga c gm : Nat} {es : List (Value × AV)} (a : InA H v ds g ga c gm es) {name off on : Nat} (m : Made v ds name off on) (hlen : ds.length ≤ 1000000) :
    TCall Tryd.prog 29 [pA g, iA name, iA off, iA on] H (fun x H' => x = iA (madeOf ds ⟨name, off, on⟩).1 ∧ ∃ ga' c' es', InA H' v (madeOf ds ⟨name, off, on⟩).2 g ga' c' gm es' ∧ Kept (SA g gm) H ga ga' H') noE := by
  refine TCall.body Tryd.func29 rfl rfl ?_
  refine WpC.seqR (WpOps.ps rfl trivial (WpOps.nil ?_))
  refine WpC.seq ?_
  refine WpC.seqR (WpOps.ps rfl trivial (WpOps.nil ?_))
  refine WpC.condP rfl ?_ ?_
  · intro hc
    refine WpC.seqR (WpOps.ps rfl trivial (WpOps.nil ?_))
    refine WpC.ret ?_
    refine VEnds.ret1 rfl rfl ?_
    have hc : off = on := Int.ofNat_inj.1 hc
    have e : madeOf ds ⟨name, off, on⟩ = (off, ds) := if_pos hc
    rw [e]
    exact ⟨rfl, ga, c, es, a, Kept.refl _ _ _⟩
  · intro hc
    have hc : off ≠ on := fun h => hc (by rw [h])
    have e : madeOf ds ⟨name, off, on⟩ = match find ds ⟨name, off, on⟩ with
      | some n => (n, ds)
      | none => (ds.length, ds ++ [⟨name, off, on⟩]) := if_neg hc
    refine WpC.skip ?_
    refine WpC.seqR ?_
    refine WpOps.ps rfl trivial ?_
    refine WpOps.consG rfl rfl (WpO.alloc rfl rfl fun gd hgd => ?_)
    refine WpOps.consG rfl rfl (WpO.init rfl rfl rfl rfl rfl rfl rfl rfl rfl ?_)
    refine WpOps.nil ?_
    obtain ⟨H1, hH1⟩ : ∃ H1, H1 = H.set gd (.cells 58 (encD ⟨name, off, on⟩)) := ⟨_, rfl⟩
    refine WpC.heap hH1.symm ?_
    have a1 : InA H1 v ds g ga c gm es := hH1 ▸ a.more hgd
    have b1 : H1 gd = some (.cells 58 (encD ⟨name, off, on⟩)) := by rw [hH1]; exact Heap.set_same _ _ _
    have u1 : ∀ k o, H k = some o → H1 k = some o := fun k o hk => by rw [hH1]; exact Heap.set_old hk hgd
    have w1 : ∀ k, H1 k = none → H k = none := fun k hk => by
      cases h : H k with
      | none => rfl
      | some o => rw [u1 k o h] at hk; cases hk
    have kd := a.known ⟨name, off, on⟩
    cases hf : find ds ⟨name, off, on⟩ with
    | some n =>
      rw [hf] at kd e
      refine WpC.seqD [.I, .I, .I, .S, .S, .S] [0, 1, 2, 3, 4, 5, 6, 7, 8, 9, 10] (by kernel_rfl) (by kernel_rfl) ?_
      refine WpPi.ps rfl trivial ?_
      refine WpPi.consS rfl rfl rfl rfl (Exact.load rfl rfl a1.box rfl rfl) ?_
      refine WpPi.consS rfl rfl rfl rfl (Exact.load rfl rfl b1 rfl rfl) ?_
      refine WpPi.consS rfl rfl rfl rfl (Exact.lookup rfl Tryd.underlying60 rfl a1.map rfl (keyD_ok ⟨name, off, on⟩) a1.keys kd) ?_
      refine WpPi.ps rfl trivial (WpPi.nil ?_)
      refine WpC.seq ?_
      refine WpC.seqR (WpOps.ps rfl trivial (WpOps.nil ?_))
      refine WpC.condF rfl ?_
      refine WpC.skip ?_
      refine WpC.seqR (WpOps.ps rfl trivial (WpOps.nil ?_))
      refine WpC.ret ?_
      refine VEnds.ret1 rfl rfl ?_
      rw [e]
      exact ⟨rfl, ga, c, es, a1, ⟨fun k o hk _ _ => u1 k o hk, .inl rfl⟩⟩
    | none =>
      rw [hf] at kd e
      refine WpC.seqD [.I, .I, .I, .S, .S, .S] [0, 1, 2, 3, 4, 5, 6, 7, 8, 9, 10] (by kernel_rfl) (by kernel_rfl) ?_
      refine WpPi.ps rfl trivial ?_
      refine WpPi.consS rfl rfl rfl rfl (Exact.load rfl rfl a1.box rfl rfl) ?_
      refine WpPi.consS rfl rfl rfl rfl (Exact.load rfl rfl b1 rfl rfl) ?_
      refine WpPi.consS rfl rfl rfl rfl (Exact.lookup_none rfl Tryd.underlying60 rfl rfl a1.map rfl (keyD_ok ⟨name, off, on⟩) a1.keys kd) ?_
      refine WpPi.ps rfl trivial (WpPi.nil ?_)
      refine WpC.seq ?_
      refine WpC.seqR (WpOps.ps rfl trivial (WpOps.nil ?_))
      refine WpC.condT rfl ?_
      refine WpC.seqR ?_
      refine WpOps.ps rfl trivial ?_
      refine WpOps.consE rfl rfl (Exact.load rfl rfl a1.box rfl rfl) ?_
      refine WpOps.ps rfl trivial (WpOps.nil ?_)
      -- what is new stands behind the others
      refine WpC.seqD [.I, .I, .I, .I, .S, .S, .I, .E, .I, .I, .E] [0, 1, 2, 3, 4, 5, 6, 7, 8, 9, 10] (by kernel_rfl) (by kernel_rfl) ?_
      refine WpPi.ps rfl trivial ?_
      refine WpPi.consS rfl rfl rfl rfl (Exact.load rfl rfl a1.box rfl rfl) ?_
      refine WpPi.consS rfl rfl rfl rfl (Exact.load rfl rfl b1 rfl rfl) ?_
      refine WpPi.consI rfl rfl rfl rfl (fun _ => Exact.litSlice rfl rfl) ?_
      refine WpPi.consE rfl rfl rfl rfl (WpO.append rfl dec_ek rfl a1.row (by simp) rfl (.rows _) (by simp [AV.one, Value.oneCell']) (by simp; omega) (by simp; omega) fun ga' c' hga' hc' => ?_)
      have n1 : gd ≠ g := (Heap.fresh_ne hgd a.box).symm
      have n2 : gd ≠ ga := (Heap.fresh_ne hgd a.row).symm
      have n3 : gd ≠ gm := (Heap.fresh_ne hgd a.map).symm
      have f1 : ga' ≠ g := by
        rcases hga' with rfl | h
        · exact a.ne1.symm
        · exact fun e => by rw [e, a1.box] at h; cases h
      have f2 : ga' ≠ gm := by
        rcases hga' with rfl | h
        · exact a.ne3
        · exact fun e => by rw [e, a1.map] at h; cases h
      have f3 : ga' ≠ gd := by
        rcases hga' with rfl | h
        · exact n2.symm
        · exact fun e => by rw [e, b1] at h; cases h
      have r1 : ((H1.del ga).set ga' (.row 58 3 ((ds.map encD).take ds.length ++ [encD ⟨name, off, on⟩]) c')) ga' = some (.row 58 3 ((ds ++ [(⟨name, off, on⟩ : Dec)]).map encD) c') := by
        rw [Heap.set_same, List.map_append, List.take_of_length_le (by simp)]; rfl
      obtain ⟨H2, hH2⟩ : ∃ H2, H2 = (H1.del ga).set ga' (.row 58 3 ((ds.map encD).take ds.length ++ [encD ⟨name, off, on⟩]) c') := ⟨_, rfl⟩
      rw [← hH2] at r1
      refine WpPi.heap hH2.symm ?_
      have u2 : ∀ k o, H1 k = some o → k ≠ ga → k ≠ ga' → H2 k = some o := fun k o hk h1 h2 => by
        rw [hH2, Heap.set_ne _ _ h2]; simp only [Heap.del]; rw [if_neg h1]; exact hk
      have g2 := u2 _ _ a1.box a.ne1 f1.symm
      refine WpPi.ps rfl trivial ?_
      refine WpPi.consE rfl rfl rfl rfl (WpO.put rfl rfl g2 rfl rfl rfl rfl rfl rfl ?_)
      obtain ⟨H3, hH3⟩ : ∃ H3, H3 = H2.set g (.cells 62 [iA v, .own (ds.length + 1) (some (ga', c')), .lit (.map (some gm))]) := ⟨_, rfl⟩
      refine WpPi.heap hH3.symm (WpPi.nil ?_)
      have g3 : H3 g = some (.cells 62 [iA v, .own (ds.length + 1) (some (ga', c')), .lit (.map (some gm))]) := by rw [hH3]; exact Heap.set_same _ _ _
      have u3 : ∀ k o, H2 k = some o → k ≠ g → H3 k = some o := fun k o hk h1 => by rw [hH3]; exact Heap.set_far hk h1
      have m3 := u3 _ _ (u2 _ _ a1.map a.ne3.symm f2.symm) a.ne2.symm
      have d3 := u3 _ _ (u2 _ _ b1 n2 f3.symm) n1
      refine WpC.draw [.I, .I, .I, .S, .S, .I, .E] [0, 1, 2, 3, 4, 5, 6] (by kernel_rfl) (by kernel_rfl) ?_
      refine WpPi.ps rfl trivial ?_
      refine WpPi.consS rfl rfl rfl rfl (Exact.load rfl rfl g3 rfl rfl) ?_
      refine WpPi.consS rfl rfl rfl rfl (Exact.load rfl rfl d3 rfl rfl) ?_
      refine WpPi.ps rfl trivial ?_
      refine WpPi.consE rfl rfl rfl rfl (WpO.mapUpdate (kv := keyD ⟨name, off, on⟩) rfl Tryd.underlying60 rfl m3 rfl rfl (keyD_ok ⟨name, off, on⟩) a1.keys ?_)
      refine WpPi.nil ?_
      refine WpC.seqR (WpOps.ps rfl trivial (WpOps.nil ?_))
      refine WpC.ret ?_
      refine VEnds.ret1 rfl rfl ?_
      rw [e]
      refine ⟨rfl, ga', c', _, ⟨?_, ?_, Heap.set_same _ _ _, keysOk_put a1.keys (keyD_ok ⟨name, off, on⟩), fun d => ?_, a.wf.push m hc hf⟩, ⟨fun k o hk h2 hS => ?_, ?_⟩⟩
      · rw [List.length_append]; exact Heap.set_far g3 a.ne2
      · exact Heap.set_far (u3 _ _ r1 f1) f2
      · rw [find_push a.wf m hc hf d]
        by_cases hd : d = ⟨name, off, on⟩
        · rw [if_pos hd, hd]
          exact mget_put_same (keyD_ok _) a1.keys
        · rw [if_neg hd]
          rw [mget_put_ne (keyD_ok _) (keyD_ok _) (fun h => hd (keyD_inj h)) a1.keys]
          exact a1.known d
      · refine Heap.set_far (u3 _ _ (u2 _ _ (u1 k o hk) h2 ?_) (fun e => hS (.inl e))) (fun e => hS (.inr e))
        rintro rfl
        rcases hga' with h | h
        · exact h2 h
        · rw [u1 k o hk] at h; cases h
      · exact hga'.imp id (w1 _)

/-! ### rules for what always, or never, holds -/
structure Rule (fr : Nat) (op : Bool → Bool → Bool) (rl : Nat → Nat → Option Nat) : Prop where
  call : ∀ (n m : Nat) (H : Heap), TCall Tryd.prog fr [iA n, iA m] H (fun x H' => x = (match rl n m with | some r => .tup [iA r, .lit (.bool true)] | none => .tup [iA 0, .lit (.bool false)]) ∧ H' = H) noE
  hit : ∀ n m r ds (s : Asg), rl n m = some r → sem ds r s = op (sem ds n s) (sem ds m s)
  which : ∀ n m r, rl n m = some r → r = n ∨ r = m ∨ r ≤ 1
  miss : ∀ n m, rl n m = none → 2 ≤ n ∨ 2 ≤ m
  enter : enterable Tryd.prog fr = true

theorem and_call (n m : Nat) (H : Heap) : TCall Tryd.prog 44 [iA n, iA m] H (fun x H' => x = (match andRl n m with | some r => .tup [iA r, .lit (.bool true)] | none => .tup [iA 0, .lit (.bool false)]) ∧ H' = H) noE := by
  refine TCall.body Tryd.func44 rfl rfl ?_
  refine WpC.seqR (WpOps.ps rfl trivial (WpOps.nil ?_))
  refine WpC.seq ?_
  refine WpC.block ?_
  refine WpC.seqR ?_
  refine WpOps.cutB 7 6 (.lit (.bool (decide (n = 0 ∨ m = 0)))) rfl ?_ ?_
  · refine WpOps.pn 3 rfl trivial ?_
    refine WpOps.split 9 rfl ?_ ?_
    · intro h
      refine WpOps.ps rfl trivial (WpOps.nil ⟨?_, rfl⟩)
      have h : n = 0 := by have : (n : Int) = 0 := by simpa using h
                           omega
      exact congrArg (fun b => AV.lit (.bool b)) (decide_eq_true (Or.inl h)).symm
    · intro h
      refine WpOps.ps rfl trivial (WpOps.nil ⟨?_, rfl⟩)
      have h : ¬ (n : Int) = 0 := by simpa using h
      exact congrArg (fun b => AV.lit (.bool b)) (decide_eq_decide.2 (by show (m : Int) = 0 ↔ _; omega))
  intro env0
  refine WpOps.nil ?_
  refine WpC.condP rfl ?_ ?_
  · intro hc
    refine WpC.seqR (WpOps.ps rfl trivial (WpOps.nil ?_))
    refine WpC.ret ?_
    refine VEnds.ret2 rfl rfl rfl ⟨?_, rfl⟩
    rw [show andRl n m = some 0 from if_pos hc]; rfl
  · intro hc
    refine WpC.seqR (WpOps.ps rfl trivial (WpOps.nil ?_))
    refine WpC.condP rfl ?_ ?_
    · intro h1
      have h1 : n = 1 := by omega
      refine WpC.seqR (WpOps.ps rfl trivial (WpOps.nil ?_))
      refine WpC.ret ?_
      refine VEnds.ret2 rfl rfl rfl ⟨?_, rfl⟩
      rw [show andRl n m = some m by unfold andRl; rw [if_neg hc, if_pos h1]]
    · intro h1
      have h1 : ¬ n = 1 := by omega
      refine WpC.seqR ?_
      refine WpOps.cutB 8 17 (.lit (.bool (decide (m = 1 ∨ n = m)))) rfl ?_ ?_
      · refine WpOps.pn 3 rfl trivial ?_
        refine WpOps.split 20 rfl ?_ ?_
        · intro h
          refine WpOps.ps rfl trivial (WpOps.nil ⟨?_, rfl⟩)
          have h : m = 1 := by have : (m : Int) = 1 := by simpa using h
                               omega
          exact congrArg (fun b => AV.lit (.bool b)) (decide_eq_true (Or.inl h)).symm
        · intro h
          refine WpOps.ps rfl trivial (WpOps.nil ⟨?_, rfl⟩)
          have h : ¬ (m : Int) = 1 := by simpa using h
          exact congrArg (fun b => AV.lit (.bool b)) (decide_eq_decide.2 (by show (n : Int) = m ↔ _; omega))
      intro env0
      refine WpOps.nil ?_
      refine WpC.condP rfl ?_ ?_
      · intro h2
        refine WpC.seqR (WpOps.ps rfl trivial (WpOps.nil ?_))
        refine WpC.ret ?_
        refine VEnds.ret2 rfl rfl rfl ⟨?_, rfl⟩
        rw [show andRl n m = some n by unfold andRl; rw [if_neg hc, if_neg h1, if_pos h2]]
      · intro h2
        refine WpC.skip ?_
        refine WpC.seqR (WpOps.ps rfl trivial (WpOps.nil ?_))
        refine WpC.ret ?_
        refine VEnds.ret2 rfl rfl rfl ⟨?_, rfl⟩
        rw [show andRl n m = none by unfold andRl; rw [if_neg hc, if_neg h1, if_neg h2]]; rfl

theorem and_rule : Rule 44 (fun a b => a && b) andRl where
  call := and_call
  hit := fun n m r ds s h => by
    unfold andRl at h
    split at h
    · rename_i hc
      injection h with h; subst h
      rcases hc with rfl | rfl <;> simp [sem_zero]
    · split at h
      · rename_i h1; subst h1; injection h with h; subst h; simp [sem_one]
      · split at h
        · rename_i h2; injection h with h; subst h
          rcases h2 with rfl | rfl <;> simp [sem_one]
        · cases h
  which := fun n m r h => by
    unfold andRl at h
    split at h
    · injection h with h; omega
    · split at h
      · injection h with h; omega
      · split at h
        · injection h with h; omega
        · cases h
  miss := fun n m h => by
    unfold andRl at h
    split at h
    · cases h
    · split at h
      · cases h
      · split at h
        · cases h
        · omega
  enter := by kernel_rfl

theorem xor_call (n m : Nat) (H : Heap) : TCall Tryd.prog 43 [iA n, iA m] H (fun x H' => x = (match xorRl n m with | some r => .tup [iA r, .lit (.bool true)] | none => .tup [iA 0, .lit (.bool false)]) ∧ H' = H) noE := by
  refine TCall.body Tryd.func43 rfl rfl ?_
  refine WpC.seqR (WpOps.ps rfl trivial (WpOps.nil ?_))
  refine WpC.seq ?_
  refine WpC.block ?_
  refine WpC.seqR (WpOps.ps rfl trivial (WpOps.nil ?_))
  refine WpC.condP rfl ?_ ?_
  · intro hc
    have hc : n = m := by omega
    refine WpC.seqR (WpOps.ps rfl trivial (WpOps.nil ?_))
    refine WpC.ret ?_
    refine VEnds.ret2 rfl rfl rfl ⟨?_, rfl⟩
    rw [show xorRl n m = some 0 from if_pos hc]; rfl
  · intro hc
    have hc : ¬ n = m := by omega
    refine WpC.seqR (WpOps.ps rfl trivial (WpOps.nil ?_))
    refine WpC.condP rfl ?_ ?_
    · intro h1
      have h1 : n = 0 := by omega
      refine WpC.seqR (WpOps.ps rfl trivial (WpOps.nil ?_))
      refine WpC.ret ?_
      refine VEnds.ret2 rfl rfl rfl ⟨?_, rfl⟩
      rw [show xorRl n m = some m by unfold xorRl; rw [if_neg hc, if_pos h1]]
    · intro h1
      have h1 : ¬ n = 0 := by omega
      refine WpC.seqR (WpOps.ps rfl trivial (WpOps.nil ?_))
      refine WpC.condP rfl ?_ ?_
      · intro h2
        have h2 : m = 0 := by omega
        refine WpC.seqR (WpOps.ps rfl trivial (WpOps.nil ?_))
        refine WpC.ret ?_
        refine VEnds.ret2 rfl rfl rfl ⟨?_, rfl⟩
        rw [show xorRl n m = some n by unfold xorRl; rw [if_neg hc, if_neg h1, if_pos h2]]
      · intro h2
        have h2 : ¬ m = 0 := by omega
        refine WpC.seqR ?_
        refine WpOps.cutB 7 18 (.lit (.bool (decide (n = 1 ∧ m = 1)))) rfl ?_ ?_
        · refine WpOps.pn 3 rfl trivial ?_
          refine WpOps.split 21 rfl ?_ ?_
          · intro h
            refine WpOps.ps rfl trivial (WpOps.nil ⟨?_, rfl⟩)
            have h : (n : Int) = 1 := by simpa using h
            exact congrArg (fun b => AV.lit (.bool b)) (decide_eq_decide.2 (by show (m : Int) = 1 ↔ _; omega))
          · intro h
            refine WpOps.ps rfl trivial (WpOps.nil ⟨?_, rfl⟩)
            have h : ¬ (n : Int) = 1 := by simpa using h
            exact congrArg (fun b => AV.lit (.bool b)) (decide_eq_false (fun h3 => h (by omega))).symm
        intro env0
        refine WpOps.nil ?_
        refine WpC.condP rfl ?_ ?_
        · intro h3
          refine WpC.seqR (WpOps.ps rfl trivial (WpOps.nil ?_))
          refine WpC.ret ?_
          refine VEnds.ret2 rfl rfl rfl ⟨?_, rfl⟩
          rw [show xorRl n m = some 0 by unfold xorRl; rw [if_neg hc, if_neg h1, if_neg h2, if_pos h3]]; rfl
        · intro h3
          refine WpC.skip ?_
          refine WpC.seqR (WpOps.ps rfl trivial (WpOps.nil ?_))
          refine WpC.ret ?_
          refine VEnds.ret2 rfl rfl rfl ⟨?_, rfl⟩
          rw [show xorRl n m = none by unfold xorRl; rw [if_neg hc, if_neg h1, if_neg h2, if_neg h3]]; rfl

theorem xor_rule : Rule 43 (fun a b => a ^^ b) xorRl where
  call := xor_call
  hit := fun n m r ds s h => by
    unfold xorRl at h
    split at h
    · rename_i hc; subst hc; injection h with h; subst h; simp [sem_zero]
    · split at h
      · rename_i h1; subst h1; injection h with h; subst h; simp [sem_zero]
      · split at h
        · rename_i h2; subst h2; injection h with h; subst h; simp [sem_zero]
        · split at h
          · rename_i h3; obtain ⟨rfl, rfl⟩ := h3; rename_i h4; exact (h4 rfl).elim
          · cases h
  which := fun n m r h => by
    unfold xorRl at h
    split at h
    · injection h with h; omega
    · split at h
      · injection h with h; omega
      · split at h
        · injection h with h; omega
        · split at h
          · injection h with h; omega
          · cases h
  miss := fun n m h => by
    unfold xorRl at h
    split at h
    · cases h
    · split at h
      · cases h
      · split at h
        · cases h
        · split at h
          · cases h
          · omega
  enter := by kernel_rfl

def keyP (n m : Nat) : Value := .agg ⟨[.int .i64 n, .int .i64 m]⟩
theorem keyP_ok (n m : Nat) : isKey Tryd.prog 109 (keyP n m) = true := by
  have : isKey Tryd.prog 109 (.agg ⟨[.int .i64 n, .int .i64 m]⟩) = true := by kernel_rfl
  exact this
theorem keyP_inj {a b n m : Nat} (h : keyP a b = keyP n m) : a = n ∧ b = m := by
  unfold keyP at h
  simp at h
  omega

def Done (v : Nat) (ds : List Dec) (op : Bool → Bool → Bool) (es : List (Value × AV)) (f : Memo) : Prop := keysOk Tryd.prog 109 es ∧ (∀ n m, mget es (keyP n m) = (f (n, m)).map fun r => iA r) ∧ DoneP v ds op f
theorem Done.ext {v : Nat} {ds ds' : List Dec} {op : Bool → Bool → Bool} {es : List (Value × AV)} {f : Memo} (h : Done v ds op es f) (e : Ext ds ds') (w : WF v ds) : Done v ds' op es f := ⟨h.1, h.2.1, h.2.2.ext e w⟩
/-- what the closure has taken up -/
structure Clo (H : Heap) (fr : Nat) (g gr gd gb gw gmd : Nat) : Prop where
  rule : H gr = some (.cells 91 [.clo (.func fr) [] []])
  done : H gd = some (.cells 107 [.lit (.map (some gmd))])
  box : H gb = some (.cells 27 [pA g])
  work : H gw = some (.cells 70 [.clo (.func 58) [] [pA gr, pA gd, pA gb, pA gw]])

def SB (g gm gmd : Nat) (k : Nat) : Prop := k = g ∨ k = gm ∨ k = gmd
/-- .. and none of which is written -/
theorem Clo.kept {H H' : Heap} {fr v : Nat} {ds : List Dec} {g ga c gm : Nat} {es es2 : List (Value × AV)} {gr gd gb gw gmd ga' : Nat} (k : Clo H fr g gr gd gb gw gmd) (a : InA H v ds g ga c gm es) (hd : H gmd = some (.map es2)) (h : Kept (SB g gm gmd) H ga ga' H') : Clo H' fr g gr gd gb gw gmd := by
  have far : ∀ q t cs, H q = some (.cells t cs) → t ≠ 62 → H' q = some (.cells t cs) := fun q t cs hq ht => by
    refine h.keep q _ hq (fun e => ?_) (fun hS => ?_)
    · rw [e, a.row] at hq; cases hq
    · rcases hS with e | e | e
      · rw [e, a.box] at hq; injection hq with hq; injection hq with h1 h2; exact ht h1.symm
      · rw [e, a.map] at hq; cases hq
      · rw [e, hd] at hq; cases hq
  exact ⟨far _ _ _ k.rule (by decide), far _ _ _ k.done (by decide), far _ _ _ k.box (by decide), far _ _ _ k.work (by decide)⟩

theorem minA (a b : Nat) : AV.lit (.int .i64 (if (b : Int) < (a : Int) then (b : Int) else (a : Int))) = iA (min a b) := by
  refine congrArg (fun z => AV.lit (.int .i64 z)) ?_
  split <;> omega

theorem bdd_work {fr : Nat} {op : Bool → Bool → Bool} {rl : Nat → Nat → Option Nat} (R : Rule fr op rl) {v g gm gr gd gb gw gmd : Nat} : ∀ (k n m : Nat) (ds : List Dec) (H : Heap) (ga c : Nat) (es es2 : List (Value × AV)) (f : Memo), n < ds.length → m < ds.length → v ≤ min (nm v ds n) (nm v ds m) + k → ds.length + 2 ^ k ≤ 1000000 →
    InA H v ds g ga c gm es → Clo H fr g gr gd gb gw gmd → H gmd = some (.map es2) → Done v ds op es2 f → gmd ≠ gm →
    TCall Tryd.prog 58 [iA n, iA m, pA gr, pA gd, pA gb, pA gw] H (fun x H' => ∃ r ds' ga' c' es' es2' f', x = iA r ∧ InA H' v ds' g ga' c' gm es' ∧ Ext ds ds' ∧ GoodM v ds' op n m r ∧ ds'.length + 1 ≤ ds.length + 2 ^ k ∧ H' gmd = some (.map es2') ∧ Done v ds' op es2' f' ∧ Kept (SB g gm gmd) H ga ga' H' ∧ workF rl (k + 1) ds f n m = some (r, ds', f')) noE := by
  intro k
  induction k using Nat.strongRecOn with
  | _ k ih =>
    intro n m ds H ga c es es2 f hn hm hk hlen a q hd done hne
    have h1k : 1 ≤ 2 ^ k := Nat.one_le_two_pow
    refine TCall.body Tryd.func58 rfl rfl ?_
    refine WpC.seqR (WpOps.ps rfl trivial (WpOps.nil ?_))
    refine WpC.seq ?_
    refine WpC.seqR ?_
    refine WpOps.consE rfl rfl (Exact.load rfl rfl q.rule rfl rfl) ?_
    refine WpOps.ps rfl trivial ?_
    have hr := R.call n m H
    cases hrl : rl n m with
    | some r =>
      rw [hrl] at hr
      refine WpOps.consE rfl rfl (Exact.call_clo rfl rfl R.enter rfl hr) ?_
      refine WpOps.ps rfl trivial (WpOps.nil ?_)
      refine WpC.seqR (WpOps.ps rfl trivial (WpOps.nil ?_))
      refine WpC.condT rfl ?_
      refine WpC.seqR (WpOps.ps rfl trivial (WpOps.nil ?_))
      refine WpC.ret ?_
      refine VEnds.ret1 rfl rfl ?_
      have h2 := a.wf.two
      have hw := R.which n m r hrl
      refine ⟨r, ds, ga, c, es, es2, f, rfl, a, .refl _, ⟨hn, hm, by omega, fun s => R.hit n m r ds s hrl, ?_⟩, by omega, hd, done, .refl _ _ _, workF_rule hrl⟩
      rcases hw with rfl | rfl | hw
      · exact Nat.min_le_left _ _
      · exact Nat.min_le_right _ _
      · rw [nm_low a.wf hw]; exact Nat.le_trans (Nat.min_le_left _ _) (nm_le a.wf n)
    | none =>
      rw [hrl] at hr
      refine WpOps.consE rfl rfl (Exact.call_clo rfl rfl R.enter rfl hr) ?_
      refine WpOps.ps rfl trivial (WpOps.nil ?_)
      refine WpC.seqR (WpOps.ps rfl trivial (WpOps.nil ?_))
      refine WpC.condF rfl ?_
      refine WpC.skip ?_
      refine WpC.seq ?_
      refine WpC.seqR ?_
      refine WpOps.consE rfl rfl (Exact.load rfl rfl q.done rfl rfl) ?_
      refine WpOps.ps rfl trivial ?_
      cases hg : mget es2 (keyP n m) with
      | some x =>
        obtain ⟨r, hf, rfl⟩ : ∃ r, f (n, m) = some r ∧ x = iA r := by
          have hfm := done.2.1 n m
          rw [hg] at hfm
          cases hf : f (n, m) with
          | none => rw [hf] at hfm; cases hfm
          | some r => rw [hf] at hfm; exact ⟨r, rfl, Option.some.inj hfm⟩
        have good := done.2.2 n m r hf
        refine WpOps.consE rfl rfl (Exact.lookup rfl Tryd.underlying107 rfl hd rfl (keyP_ok n m) done.1 hg) ?_
        refine WpOps.ps rfl trivial (WpOps.nil ?_)
        refine WpC.seqR (WpOps.ps rfl trivial (WpOps.nil ?_))
        refine WpC.condT rfl ?_
        refine WpC.seqR (WpOps.ps rfl trivial (WpOps.nil ?_))
        refine WpC.ret ?_
        refine VEnds.ret1 rfl rfl ?_
        exact ⟨r, ds, ga, c, es, es2, f, rfl, a, .refl _, good, by omega, hd, done, .refl _ _ _, workF_hit hrl hf⟩
      | none =>
        have hf : f (n, m) = none := by
          have hfm := done.2.1 n m
          rw [hg] at hfm
          cases hf : f (n, m) with
          | none => rfl
          | some r => rw [hf] at hfm; cases hfm
        refine WpOps.consE rfl rfl (Exact.lookup_none rfl Tryd.underlying107 rfl rfl hd rfl (keyP_ok n m) done.1 hg) ?_
        refine WpOps.ps rfl trivial (WpOps.nil ?_)
        refine WpC.seqR (WpOps.ps rfl trivial (WpOps.nil ?_))
        refine WpC.condF rfl ?_
        refine WpC.skip ?_
        -- the name that comes first
        obtain ⟨dn, hdn⟩ : ∃ d, ds[n]? = some d := ⟨_, List.getElem?_eq_getElem hn⟩
        obtain ⟨dm, hdm⟩ : ∃ d, ds[m]? = some d := ⟨_, List.getElem?_eq_getElem hm⟩
        have en : nm v ds n = dn.name := nm_some hdn
        have em : nm v ds m = dm.name := nm_some hdm
        have hname : min dn.name dm.name < v := by
          rcases R.miss n m hrl with h | h
          · have := (a.wf.fine n dn h hdn).name; omega
          · have := (a.wf.fine m dm h hdm).name; omega
        rw [en, em] at hk
        obtain ⟨name, hnm⟩ : ∃ x, x = min dn.name dm.name := ⟨_, rfl⟩
        obtain ⟨k, rfl⟩ : ∃ j, k = j + 1 := ⟨k - 1, by omega⟩
        have hpk : 2 ^ (k + 1) = 2 ^ k + 2 ^ k := by rw [Nat.pow_succ]; omega
        have h1k : 1 ≤ 2 ^ k := Nat.one_le_two_pow
        refine WpC.seqD [.S, .I, .I, .S, .I, .I, .I, .S, .S, .I, .I, .S, .I, .I, .I, .S] [0, 1, 2, 3, 4, 5, 6, 7, 8, 9, 10, 11, 12, 13, 14, 15, 16, 17] (by kernel_rfl) (by kernel_rfl) ?_
        refine WpPi.consS rfl rfl rfl rfl (Exact.load rfl rfl q.box rfl rfl) ?_
        refine WpPi.ps rfl trivial ?_
        refine WpPi.consS rfl rfl rfl rfl (Exact.load rfl rfl a.box rfl rfl) ?_
        refine WpPi.ps rfl trivial ?_
        refine WpPi.consI rfl rfl rfl rfl (fun _ => Exact.indexAddr_buf (size := 3) rfl rfl rfl hn rfl rfl (by decide)) ?_
        refine WpPi.ps rfl trivial ?_
        refine WpPi.consS rfl rfl rfl rfl (Exact.load_row (i := n) (f := 0) rfl rfl a.row rfl (by decide) (at_dec hdn) rfl) ?_
        refine WpPi.consS rfl rfl rfl rfl (Exact.load rfl rfl q.box rfl rfl) ?_
        refine WpPi.ps rfl trivial ?_
        refine WpPi.consS rfl rfl rfl rfl (Exact.load rfl rfl a.box rfl rfl) ?_
        refine WpPi.ps rfl trivial ?_
        refine WpPi.consI rfl rfl rfl rfl (fun _ => Exact.indexAddr_buf (size := 3) rfl rfl rfl hm rfl rfl (by decide)) ?_
        refine WpPi.ps rfl trivial ?_
        refine WpPi.consS rfl rfl rfl rfl (Exact.load_row (i := m) (f := 0) rfl rfl a.row rfl (by decide) (at_dec hdm) rfl) ?_
        refine WpPi.ps rfl trivial (WpPi.nil ?_)
        refine WpC.at 13 (v := iA name) ((minA dn.name dm.name).trans (congrArg (fun z : Nat => iA z) hnm.symm)) ?_
        -- the side without it
        obtain ⟨ln, lnn, lns⟩ := sem_side a.wf (on := false) hdn (name := name) (by omega) (by omega)
        obtain ⟨lm, lmn, lms⟩ := sem_side a.wf (on := false) hdm (name := name) (by omega) (by omega)
        refine WpC.seqD [.S, .S, .I, .I, .S, .S, .I, .I, .S, .E] [0, 1, 2, 3, 4, 5, 6, 7, 8, 9, 10] (by kernel_rfl) (by kernel_rfl) ?_
        refine WpPi.consS rfl rfl rfl rfl (Exact.load rfl rfl q.work rfl rfl) ?_
        refine WpPi.consS rfl rfl rfl rfl (Exact.load rfl rfl q.box rfl rfl) ?_
        refine WpPi.ps rfl trivial ?_
        refine WpPi.consS rfl rfl rfl rfl (Exact.call rfl rfl rfl (bdd_side a (name := name) (on := false) hdn)) ?_
        refine WpPi.consS rfl rfl rfl rfl (Exact.load rfl rfl q.box rfl rfl) ?_
        refine WpPi.ps rfl trivial ?_
        refine WpPi.consS rfl rfl rfl rfl (Exact.call rfl rfl rfl (bdd_side a (name := name) (on := false) hdm)) ?_
        refine WpPi.consE rfl rfl rfl rfl (WpO.call_clo rfl rfl rfl rfl ((ih k (by omega) (sideOf dn n name false) (sideOf dm m name false) ds H ga c es es2 f ln lm (by omega) (by omega) a q hd done hne).mono ?_ (fun _ _ h => h)))
        rintro _ H1 ⟨r1, ds1, ga1, c1, es1, es21, f1, rfl, a1, x1, good1, len1, hd1, done1, kept1, wk1⟩
        have q1 := q.kept a hd kept1
        refine WpPi.ps rfl trivial (WpPi.nil ?_)
        -- the side with it
        have hdn1 : ds1[n]? = some dn := by rw [x1.get hn]; exact hdn
        have hdm1 : ds1[m]? = some dm := by rw [x1.get hm]; exact hdm
        obtain ⟨pn, pnn, pns⟩ := sem_side a1.wf (on := true) hdn1 (name := name) (by rw [nm_some hdn1]; omega) (by omega)
        obtain ⟨pm, pmn, pms⟩ := sem_side a1.wf (on := true) hdm1 (name := name) (by rw [nm_some hdm1]; omega) (by omega)
        refine WpC.seqD [.S, .S, .I, .I, .S, .S, .I, .I, .S, .E] [0, 1, 2, 3, 4, 5, 6, 7, 8, 9, 10] (by kernel_rfl) (by kernel_rfl) ?_
        refine WpPi.consS rfl rfl rfl rfl (Exact.load rfl rfl q1.work rfl rfl) ?_
        refine WpPi.consS rfl rfl rfl rfl (Exact.load rfl rfl q1.box rfl rfl) ?_
        refine WpPi.ps rfl trivial ?_
        refine WpPi.consS rfl rfl rfl rfl (Exact.call rfl rfl rfl (bdd_side a1 (name := name) (on := true) hdn1)) ?_
        refine WpPi.consS rfl rfl rfl rfl (Exact.load rfl rfl q1.box rfl rfl) ?_
        refine WpPi.ps rfl trivial ?_
        refine WpPi.consS rfl rfl rfl rfl (Exact.call rfl rfl rfl (bdd_side a1 (name := name) (on := true) hdm1)) ?_
        refine WpPi.consE rfl rfl rfl rfl (WpO.call_clo rfl rfl rfl rfl ((ih k (by omega) (sideOf dn n name true) (sideOf dm m name true) ds1 H1 ga1 c1 es1 es21 f1 pn pm (by omega) (by omega) a1 q1 hd1 done1 hne).mono ?_ (fun _ _ h => h)))
        rintro _ H2 ⟨r2, ds2, ga2, c2, es2', es22, f2, rfl, a2, x2, good2, len2, hd2, done2, kept2, wk2⟩
        have q2 := q1.kept a1 hd1 kept2
        refine WpPi.ps rfl trivial (WpPi.nil ?_)
        -- what is made of both
        have hl1 := x1.len
        have hl2 := x2.len
        have m2 : Made v ds2 name r1 r2 := ⟨by have := good1.hr; omega, good2.hr, by omega, by rw [x2.nm good1.hr]; have := good1.hnm; rw [x1.nm ln, x1.nm lm] at this; omega, by have := good2.hnm; rw [x2.nm pn, x2.nm pm] at this; omega⟩
        have l2 : ds2.length ≤ 1000000 := by omega
        obtain ⟨w3, x3, lt3, len3, nm3, sem3⟩ := made_good a2.wf m2
        refine WpC.seqR ?_
        refine WpOps.consE rfl rfl (Exact.load rfl rfl q2.box rfl rfl) ?_
        refine WpOps.ps rfl trivial ?_
        refine WpOps.consG rfl rfl (WpO.call rfl rfl rfl ((bdd_made a2 m2 l2).mono ?_ (fun _ _ h => h.elim)))
        rintro _ H3 ⟨rfl, ga3, c3, es3, a3, kept3⟩
        have g1 : gmd ≠ g := fun e => by have := hd2; rw [e, a2.box] at this; cases this
        have g2 : gmd ≠ ga2 := fun e => by have := hd2; rw [e, a2.row] at this; cases this
        have hd3 := kept3.keep _ _ hd2 g2 (fun h => h.elim g1 hne)
        have g3 : gmd ≠ ga3 := fun e => by have := hd3; rw [e, a3.row] at this; cases this
        have kept3' : Kept (SB g gm gmd) H2 ga2 ga3 H3 := kept3.mono fun k h => h.elim .inl (fun h => .inr (.inl h))
        have q3 := q2.kept a2 hd2 kept3'
        refine WpOps.ps rfl trivial (WpOps.nil ?_)
        refine WpC.seqR ?_
        refine WpOps.consE rfl rfl (Exact.load rfl rfl q3.done rfl rfl) ?_
        refine WpOps.ps rfl trivial ?_
        refine WpOps.consG rfl rfl (WpO.mapUpdate (kv := keyP n m) rfl Tryd.underlying107 rfl hd3 rfl rfl (keyP_ok n m) done2.1 ?_)
        refine WpOps.nil ?_
        refine WpC.seqR (WpOps.ps rfl trivial (WpOps.nil ?_))
        refine WpC.ret ?_
        refine VEnds.ret1 rfl rfl ?_
        have xx : Ext ds (madeOf ds2 ⟨name, r1, r2⟩).2 := x1.trans (x2.trans x3)
        have x12 : Ext ds ds2 := x1.trans x2
        have good : GoodM v (madeOf ds2 ⟨name, r1, r2⟩).2 op n m (madeOf ds2 ⟨name, r1, r2⟩).1 := by
          refine ⟨Nat.lt_of_lt_of_le hn xx.len, Nat.lt_of_lt_of_le hm xx.len, lt3, fun s => ?_, by rw [xx.nm hn, xx.nm hm, en, em, ← hnm]; exact nm3⟩
          rw [sem3, xx.sem a.wf _ _ hn, xx.sem a.wf _ _ hm]
          cases hs : s name with
          | true =>
            have us : upd s name true = s := by rw [← hs]; exact upd_self s name
            simp only [if_true]
            rw [good2.hsem, x2.sem a1.wf _ _ pn, x2.sem a1.wf _ _ pm, pns, pms, us, x1.sem a.wf _ _ hn, x1.sem a.wf _ _ hm]
          | false =>
            have us : upd s name false = s := by rw [← hs]; exact upd_self s name
            simp only [Bool.false_eq_true, if_false]
            rw [x2.sem a1.wf _ _ good1.hr, good1.hsem, x1.sem a.wf _ _ ln, x1.sem a.wf _ _ lm, lns, lms, us]
        have stay : ∀ {H : Heap} {ds : List Dec} {ga c : Nat} {es es2 : List (Value × AV)}, InA H v ds g ga c gm es → H gmd = some (.map es2) → ∀ k, SB g gm gmd k → ∃ o, H k = some o := fun a h k hk => by
          rcases hk with rfl | rfl | rfl
          · exact ⟨_, a.box⟩
          · exact ⟨_, a.map⟩
          · exact ⟨_, h⟩
        refine ⟨_, _, ga3, c3, es3, mput es22 (keyP n m) (iA (madeOf ds2 ⟨name, r1, r2⟩).1), f2.put (n, m) (madeOf ds2 ⟨name, r1, r2⟩).1, rfl, ⟨Heap.set_far a3.box g1.symm, Heap.set_far a3.row g3.symm, Heap.set_far a3.map hne.symm, a3.keys, a3.known, a3.wf⟩, xx, good, by omega, Heap.set_same _ _ _, ⟨keysOk_put done2.1 (keyP_ok n m), fun n' m' => ?_, fun n' m' r hq9 => ?_⟩, ?_, workF_miss hrl hf hdn hdm hnm wk1 wk2⟩
        · by_cases he : keyP n' m' = keyP n m
          · obtain ⟨rfl, rfl⟩ := keyP_inj he
            rw [mget_put_same (keyP_ok _ _) done2.1]
            unfold Memo.put
            rw [if_pos rfl]; rfl
          · rw [mget_put_ne (keyP_ok _ _) (keyP_ok _ _) he done2.1, done2.2.1]
            unfold Memo.put
            rw [if_neg (fun e => he (by injection e with e1 e2; rw [e1, e2]))]
        · unfold Memo.put at hq9
          by_cases he : (n', m') = (n, m)
          · rw [if_pos he] at hq9
            injection he with he1 he2
            subst he1; subst he2
            obtain rfl := Option.some.inj hq9
            exact good
          · rw [if_neg he] at hq9
            exact (done2.2.2 n' m' r hq9).ext x3 a2.wf
        · exact (kept1.trans kept2 (stay a1 hd1)).trans (kept3'.trans ⟨fun k o hk _ hS => Heap.set_far hk (fun e => hS (.inr (.inr e))), .inl rfl⟩ (stay a3 hd3)) (stay a2 hd2)

def Makes (v g gm : Nat) (ds : List Dec) (ga : Nat) (H : Heap) (k : Nat) (φ : Asg → Bool) (W : Nat → List Dec → Prop) (out : Nat → AV) (x : AV) (H' : Heap) : Prop :=
  ∃ r ds' ga' c' es', x = out r ∧ InA H' v ds' g ga' c' gm es' ∧ Ext ds ds' ∧ r < ds'.length ∧ (∀ s, sem ds' r s = φ s) ∧ ds'.length ≤ ds.length + k ∧ Kept (SA g gm) H ga ga' H' ∧ W r ds'
def BothR (rl : Nat → Nat → Option Nat) (v : Nat) (ds : List Dec) (n m r : Nat) (ds' : List Dec) : Prop := ∃ f', workF rl (v + 1) ds (fun _ => none) n m = some (r, ds', f')
theorem InA.stay {H : Heap} {v : Nat} {ds : List Dec} {g ga c gm : Nat} {es : List (Value × AV)} (a : InA H v ds g ga c gm es) : ∀ q, SA g gm q → ∃ o, H q = some o := fun q h => h.elim (fun e => e ▸ ⟨_, a.box⟩) (fun e => e ▸ ⟨_, a.map⟩)

theorem bdd_both {fr : Nat} {op : Bool → Bool → Bool} {rl : Nat → Nat → Option Nat} (R : Rule fr op rl) {H : Heap} {v : Nat} {ds : List Dec} {g ga c gm : Nat} {es : List (Value × AV)} (a : InA H v ds g ga c gm es) (hv : v ≤ 8) {n m : Nat} (hn : n < ds.length) (hm : m < ds.length) (hlen : ds.length ≤ 900000) :
    TCall Tryd.prog 42 [pA g, iA n, iA m, .clo (.func fr) [] []] H (Makes v g gm ds ga H 256 (fun s => op (sem ds n s) (sem ds m s)) (BothR rl v ds n m) iA) noE := by
  have h8 := pow8 hv
  refine TCall.body Tryd.func42 rfl rfl ?_
  refine WpC.seqR ?_
  refine WpOps.consG rfl rfl (WpO.box rfl rfl fun gb hgb => ?_)
  refine WpOps.consG rfl rfl (WpO.box rfl rfl fun gr hgr => ?_)
  refine WpOps.ps rfl trivial (WpOps.nil ?_)
  refine WpC.seqR ?_
  refine WpOps.consG rfl rfl (WpO.makeMap rfl fun gmd hgmd => ?_)
  refine WpOps.consG rfl rfl (WpO.alloc rfl rfl fun gd hgd => ?_)
  refine WpOps.consG rfl rfl (WpO.init rfl rfl rfl rfl rfl rfl rfl rfl rfl ?_)
  refine WpOps.nil ?_
  refine WpC.seqR ?_
  refine WpOps.consG rfl rfl (WpO.alloc rfl rfl fun gw hgw => ?_)
  refine WpOps.nil ?_
  refine WpC.seqR ?_
  refine WpOps.ps rfl trivial ?_
  refine WpOps.consG rfl rfl (WpO.init rfl rfl rfl rfl rfl rfl rfl rfl rfl ?_)
  refine WpOps.nil ?_
  -- the heap, its blocks by name
  obtain ⟨H1, e1⟩ : ∃ H1, H1 = H.set gb (.cells 27 [pA g]) := ⟨_, rfl⟩
  obtain ⟨H2, e2⟩ : ∃ H2, H2 = H1.set gr (.cells 91 [.clo (.func fr) [] []]) := ⟨_, rfl⟩
  obtain ⟨H3, e3⟩ : ∃ H3, H3 = H2.set gmd (.map []) := ⟨_, rfl⟩
  obtain ⟨H4, e4⟩ : ∃ H4, H4 = H3.set gd (.cells 107 [.lit (.map (some gmd))]) := ⟨_, rfl⟩
  obtain ⟨H5, e5⟩ : ∃ H5, H5 = H4.set gw (.cells 70 [.clo (.func 58) [] [pA gr, pA gd, pA gb, pA gw]]) := ⟨_, rfl⟩
  have hgr : H1 gr = none := by rw [e1]; exact hgr
  have hgmd : H2 gmd = none := by rw [e2, e1]; exact hgmd
  have hgd : H3 gd = none := by rw [e3, e2, e1]; exact hgd
  have hgw : H4 gw = none := by rw [e4, e3, e2, e1]; exact hgw
  refine WpC.heap (show _ = H5 from by rw [e5, e4, e3, e2, e1]; rfl) ?_
  have up : ∀ k o, H k = some o → H5 k = some o := fun k o h => by
    rw [e5]; refine Heap.set_old ?_ hgw
    rw [e4]; refine Heap.set_old ?_ hgd
    rw [e3]; refine Heap.set_old ?_ hgmd
    rw [e2]; refine Heap.set_old ?_ hgr
    rw [e1]; exact Heap.set_old h hgb
  have down : ∀ k, H5 k = none → H k = none := fun k h => by
    cases hh : H k with
    | none => rfl
    | some o => rw [up k o hh] at h; cases h
  have a5 : InA H5 v ds g ga c gm es := ⟨up _ _ a.box, up _ _ a.row, up _ _ a.map, a.keys, a.known, a.wf⟩
  have b1 : H1 gb = some (.cells 27 [pA g]) := by rw [e1]; exact Heap.set_same _ _ _
  have b2 : H2 gr = some (.cells 91 [.clo (.func fr) [] []]) := by rw [e2]; exact Heap.set_same _ _ _
  have b3 : H3 gmd = some (.map []) := by rw [e3]; exact Heap.set_same _ _ _
  have b4 : H4 gd = some (.cells 107 [.lit (.map (some gmd))]) := by rw [e4]; exact Heap.set_same _ _ _
  have b5 : H5 gw = some (.cells 70 [.clo (.func 58) [] [pA gr, pA gd, pA gb, pA gw]]) := by rw [e5]; exact Heap.set_same _ _ _
  have u5 : ∀ k o, H4 k = some o → H5 k = some o := fun k o h => by rw [e5]; exact Heap.set_old h hgw
  have u4 : ∀ k o, H3 k = some o → H5 k = some o := fun k o h => u5 k o (by rw [e4]; exact Heap.set_old h hgd)
  have u3 : ∀ k o, H2 k = some o → H5 k = some o := fun k o h => u4 k o (by rw [e3]; exact Heap.set_old h hgmd)
  have u2 : ∀ k o, H1 k = some o → H5 k = some o := fun k o h => u3 k o (by rw [e2]; exact Heap.set_old h hgr)
  have q : Clo H5 fr g gr gd gb gw gmd := ⟨u3 _ _ b2, u5 _ _ b4, u2 _ _ b1, b5⟩
  have hd : H5 gmd = some (.map []) := u4 _ _ b3
  have hne : gmd ≠ gm := fun e => by
    have h2 : H2 gm = some (.map es) := by
      rw [e2]; refine Heap.set_old ?_ hgr
      rw [e1]; exact Heap.set_old a.map hgb
    rw [← e, hgmd] at h2; cases h2
  have far : ∀ k o, H k = some o → k ≠ gmd := fun k o h e => by
    have h2 : H2 k = some o := by
      rw [e2]; refine Heap.set_old ?_ hgr
      rw [e1]; exact Heap.set_old h hgb
    rw [e, hgmd] at h2; cases h2
  refine WpC.seqR ?_
  refine WpOps.consE rfl rfl (Exact.load rfl rfl b5 rfl rfl) ?_
  refine WpOps.ps rfl trivial ?_
  refine WpOps.consG rfl rfl (WpO.call_clo rfl rfl rfl rfl ((bdd_work R v n m ds H5 ga c es [] (fun _ => none) hn hm (by omega) (by omega) a5 q hd ⟨fun e he => (by cases he), fun n m => rfl, fun n m r h => (by cases h)⟩ hne).mono ?_ (fun _ _ h => h.elim)))
  rintro _ H' ⟨r, ds', ga', c', es', es2', f', rfl, a', x', good, len', _, _, kept, wk⟩
  refine WpOps.ps rfl trivial (WpOps.nil ?_)
  refine WpC.ret ?_
  refine VEnds.ret1 rfl rfl ?_
  refine ⟨r, ds', ga', c', es', rfl, a', x', good.hr, fun s => ?_, by omega, ⟨fun k o hk h1 h2 => kept.keep k o (up k o hk) h1 (fun hS => ?_), kept.fresh.imp id (down _)⟩, ⟨_, wk⟩⟩
  · rw [good.hsem, x'.sem a.wf _ _ hn, x'.sem a.wf _ _ hm]
  · rcases hS with h | h | h
    · exact h2 (.inl h)
    · exact h2 (.inr h)
    · exact far k o hk h

theorem bdd_and {H : Heap} {v : Nat} {ds : List Dec} {g ga c gm : Nat} {es : List (Value × AV)} (a : InA H v ds g ga c gm es) (hv : v ≤ 8) {n m : Nat} (hn : n < ds.length) (hm : m < ds.length) (hlen : ds.length ≤ 900000) :
    TCall Tryd.prog 32 [pA g, iA n, iA m] H (Makes v g gm ds ga H 256 (fun s => sem ds n s && sem ds m s) (BothR andRl v ds n m) iA) noE := by
  refine TCall.body Tryd.func32 rfl rfl ?_
  refine WpC.seqR (WpOps.ps rfl trivial (WpOps.nil ?_))
  refine WpC.seqR ?_
  refine WpOps.ps rfl trivial ?_
  refine WpOps.consG rfl rfl (WpO.call rfl rfl rfl ((bdd_both and_rule a hv hn hm hlen).mono ?_ (fun _ _ h => h.elim)))
  rintro _ H' ⟨r, ds', ga', c', es', rfl, h⟩
  refine WpOps.ps rfl trivial (WpOps.nil ?_)
  refine WpC.ret ?_
  exact VEnds.ret1 rfl rfl ⟨r, ds', ga', c', es', rfl, h⟩

theorem bdd_xor {H : Heap} {v : Nat} {ds : List Dec} {g ga c gm : Nat} {es : List (Value × AV)} (a : InA H v ds g ga c gm es) (hv : v ≤ 8) {n m : Nat} (hn : n < ds.length) (hm : m < ds.length) (hlen : ds.length ≤ 900000) :
    TCall Tryd.prog 31 [pA g, iA n, iA m] H (Makes v g gm ds ga H 256 (fun s => sem ds n s ^^ sem ds m s) (BothR xorRl v ds n m) iA) noE := by
  refine TCall.body Tryd.func31 rfl rfl ?_
  refine WpC.seqR (WpOps.ps rfl trivial (WpOps.nil ?_))
  refine WpC.seqR ?_
  refine WpOps.ps rfl trivial ?_
  refine WpOps.consG rfl rfl (WpO.call rfl rfl rfl ((bdd_both xor_rule a hv hn hm hlen).mono ?_ (fun _ _ h => h.elim)))
  rintro _ H' ⟨r, ds', ga', c', es', rfl, h⟩
  refine WpOps.ps rfl trivial (WpOps.nil ?_)
  refine WpC.ret ?_
  exact VEnds.ret1 rfl rfl ⟨r, ds', ga', c', es', rfl, h⟩

/-- are these conditions of the arena -/
def zA (n : Int) : List AV := [.lit (.int .i64 n)]
def rightOf (len : Nat) (l : List Int) : Bool := decide (∀ n ∈ l, 0 ≤ n ∧ n < len)
theorem bdd_right {H : Heap} {v : Nat} {ds : List Dec} {g ga c gm : Nat} {es : List (Value × AV)} (a : InA H v ds g ga c gm es) (l : List Int) (hl : l.length ≤ 10) (hlen : ds.length ≤ 1000000) :
    TCall Tryd.prog 30 [pA g, .rows 1 (l.map zA)] H (fun x H' => x = .lit (.bool (rightOf ds.length l)) ∧ H' = H) noE := by
  refine TCall.body Tryd.func30 rfl rfl ?_
  refine WpC.seqR (WpOps.ps rfl trivial (WpOps.nil ?_))
  refine WpC.seq ?_
  refine WpC.seqR (WpOps.ps rfl trivial (WpOps.nil ?_))
  refine WpC.block ?_
  refine WpC.loopK (fun x : Nat => [(9, iA x), (8, iA (l.map zA).length), (7, .rows 1 (l.map zA)), (0, pA g)]) (fun x H' => x ≤ l.length ∧ (∀ n ∈ l.take x, 0 ≤ n ∧ n < ds.length) ∧ H' = H) (fun x => l.length - x) 0 ⟨rfl, rfl, rfl, rfl, trivial⟩ ⟨Nat.zero_le _, (fun n hn => by simp at hn), rfl⟩ ?_
  rintro k env H' ⟨hk, hl2, rfl⟩
  refine WpC.seqR (WpOps.ps rfl trivial (WpOps.nil ?_))
  refine WpC.seq ?_
  refine WpC.condP rfl ?_ ?_
  · intro hc
    have hc : k < l.length := ltlen.1 hc
    obtain ⟨z, hz⟩ : ∃ z, l[k]? = some z := ⟨_, List.getElem?_eq_getElem hc⟩
    refine WpC.skip ?_
    refine WpC.seq ?_
    refine WpC.block ?_
    refine WpC.seqR ?_
    refine WpOps.consE rfl rfl (Exact.indexAddr_rows rfl rfl rfl (map_at hz) rfl rfl (by decide)) ?_
    refine WpOps.consE rfl rfl (Exact.load_rop rfl rfl rfl) ?_
    refine WpOps.ps rfl trivial (WpOps.nil ?_)
    refine WpC.seqR ?_
    refine WpOps.cutB 11 23 (.lit (.bool (decide (¬ (0 ≤ z ∧ z < ds.length))))) rfl ?_ ?_
    · refine WpOps.pn 3 rfl trivial ?_
      refine WpOps.split 15 rfl ?_ ?_
      · intro h
        refine WpOps.ps rfl trivial (WpOps.nil ⟨?_, rfl⟩)
        have h : z < 0 := by simpa using h
        exact congrArg (fun b => AV.lit (.bool b)) (decide_eq_true (p := ¬ (0 ≤ z ∧ z < (ds.length : Int))) (fun h2 => by omega)).symm
      · intro h
        have h : ¬ z < 0 := by simpa using h
        refine WpOps.ps rfl trivial ?_
        refine WpOps.consE rfl rfl (Exact.load rfl rfl a.box rfl rfl) ?_
        refine WpOps.ps rfl trivial (WpOps.nil ⟨?_, rfl⟩)
        exact congrArg (fun b => AV.lit (.bool b)) (decide_eq_decide.2 (by omega))
    intro env0
    refine WpOps.nil ?_
    refine WpC.condP rfl ?_ ?_
    · intro hb
      refine WpC.seqR (WpOps.ps rfl trivial (WpOps.nil ?_))
      refine WpC.ret ?_
      refine VEnds.ret1 rfl rfl ⟨?_, rfl⟩
      have : rightOf ds.length l = false := decide_eq_false fun h => hb (h z (List.mem_of_getElem? hz))
      rw [this]
    · intro hb
      have hb : 0 ≤ z ∧ z < ds.length := Decidable.of_not_not hb
      refine WpC.skip ?_
      refine WpC.region (WpOps.ps rfl (by simp only [conj, inR]; omega) (WpOps.nil ?_))
      refine ⟨k + 1, by omega, ⟨rfl, rfl, rfl, rfl, trivial⟩, hc, fun n hn => ?_, rfl⟩
      rw [List.take_add_one, hz] at hn
      rcases List.mem_append.1 hn with h | h
      · exact hl2 n h
      · simp at h; subst h; exact hb
  · intro hc
    have h3 : ¬ (k < l.length) := fun h => hc (ltlen.2 h)
    have hc : k = l.length := by omega
    subst hc
    rw [List.take_length] at hl2
    refine WpC.exit ?_
    refine WpC.seqR (WpOps.ps rfl trivial (WpOps.nil ?_))
    refine WpC.ret ?_
    refine VEnds.ret1 rfl rfl ⟨?_, rfl⟩
    have : rightOf ds.length l = true := decide_eq_true hl2
    rw [this]

abbrev eA (x : AV) (e : Nat) : AV := .tup [x, iA e]

theorem bdd_And {H : Heap} {v : Nat} {ds : List Dec} {g ga c gm : Nat} {es : List (Value × AV)} (a : InA H v ds g ga c gm es) (hv : v ≤ 8) {n m : Nat} (hn : n < ds.length) (hm : m < ds.length) (hlen : ds.length ≤ 900000) :
    TCall Tryd.prog 19 [pA g, iA n, iA m] H (Makes v g gm ds ga H 256 (fun s => sem ds n s && sem ds m s) (BothR andRl v ds n m) (fun r => eA (iA r) 0)) noE := by
  refine TCall.body Tryd.func19 rfl rfl ?_
  refine WpC.seqR (WpOps.ps rfl trivial (WpOps.nil ?_))
  refine WpC.seq ?_
  refine WpC.seqR ?_
  refine WpOps.ps rfl trivial ?_
  refine WpOps.consE rfl rfl (Exact.litSlice rfl rfl) ?_
  refine WpOps.consE rfl rfl (Exact.call rfl rfl rfl (bdd_right a [(n : Int), (m : Int)] (by simp) (by omega))) ?_
  refine WpOps.at 12 (v := .lit (.bool true)) (congrArg (fun b => AV.lit (.bool b)) (decide_eq_true (by simp; omega))) ?_
  refine WpOps.ps rfl trivial (WpOps.nil ?_)
  refine WpC.condF rfl ?_
  refine WpC.skip ?_
  refine WpC.seqR ?_
  refine WpOps.ps rfl trivial ?_
  refine WpOps.consG rfl rfl (WpO.call rfl rfl rfl ((bdd_and a hv hn hm hlen).mono ?_ (fun _ _ h => h.elim)))
  rintro _ H' ⟨r, ds', ga', c', es', rfl, h⟩
  refine WpOps.ps rfl trivial (WpOps.nil ?_)
  refine WpC.ret ?_
  exact VEnds.ret2 rfl rfl rfl ⟨r, ds', ga', c', es', rfl, h⟩

theorem bdd_Or {H : Heap} {v : Nat} {ds : List Dec} {g ga c gm : Nat} {es : List (Value × AV)} (a : InA H v ds g ga c gm es) (hv : v ≤ 8) {n m : Nat} (hn : n < ds.length) (hm : m < ds.length) (hlen : ds.length ≤ 800000) :
    TCall Tryd.prog 18 [pA g, iA n, iA m] H (Makes v g gm ds ga H 768 (fun s => sem ds n s || sem ds m s) (fun r d => ∃ r1 d1 r2 d2, BothR xorRl v ds n m r1 d1 ∧ BothR andRl v d1 n m r2 d2 ∧ BothR xorRl v d2 r1 r2 r d) (fun r => eA (iA r) 0)) noE := by
  refine TCall.body Tryd.func18 rfl rfl ?_
  refine WpC.seqR (WpOps.ps rfl trivial (WpOps.nil ?_))
  refine WpC.seq ?_
  refine WpC.seqR ?_
  refine WpOps.ps rfl trivial ?_
  refine WpOps.consE rfl rfl (Exact.litSlice rfl rfl) ?_
  refine WpOps.consE rfl rfl (Exact.call rfl rfl rfl (bdd_right a [(n : Int), (m : Int)] (by simp) (by omega))) ?_
  refine WpOps.at 12 (v := .lit (.bool true)) (congrArg (fun b => AV.lit (.bool b)) (decide_eq_true (by simp; omega))) ?_
  refine WpOps.ps rfl trivial (WpOps.nil ?_)
  refine WpC.condF rfl ?_
  refine WpC.skip ?_
  refine WpC.seqR ?_
  refine WpOps.ps rfl trivial ?_
  refine WpOps.consG rfl rfl (WpO.call rfl rfl rfl ((bdd_xor a hv hn hm (by omega)).mono ?_ (fun _ _ h => h.elim)))
  rintro _ H1 ⟨r1, ds1, ga1, c1, es1, rfl, a1, x1, lt1, sem1, len1, kept1, wk1⟩
  have l1 := x1.len
  refine WpOps.ps rfl trivial ?_
  refine WpOps.consG rfl rfl (WpO.call rfl rfl rfl ((bdd_and a1 hv (n := n) (m := m) (by omega) (by omega) (by omega)).mono ?_ (fun _ _ h => h.elim)))
  rintro _ H2 ⟨r2, ds2, ga2, c2, es2, rfl, a2, x2, lt2, sem2, len2, kept2, wk2⟩
  have l2 := x2.len
  refine WpOps.consG rfl rfl (WpO.call rfl rfl rfl ((bdd_xor a2 hv (n := r1) (m := r2) (by omega) (by omega) (by omega)).mono ?_ (fun _ _ h => h.elim)))
  rintro _ H3 ⟨r3, ds3, ga3, c3, es3, rfl, a3, x3, lt3, sem3, len3, kept3, wk3⟩
  refine WpOps.ps rfl trivial (WpOps.nil ?_)
  refine WpC.ret ?_
  refine VEnds.ret2 rfl rfl rfl ⟨r3, ds3, ga3, c3, es3, rfl, a3, x1.trans (x2.trans x3), lt3, fun s => ?_, by omega, (kept1.trans kept2 a1.stay).trans kept3 a2.stay, ⟨r1, ds1, r2, ds2, wk1, wk2, wk3⟩⟩
  dsimp only at sem1 sem2 sem3 ⊢
  rw [sem3, x2.sem a1.wf _ _ lt1, sem1, sem2, x1.sem a.wf _ _ hn, x1.sem a.wf _ _ hm]
  cases sem ds n s <;> cases sem ds m s <;> rfl

theorem bdd_Xor {H : Heap} {v : Nat} {ds : List Dec} {g ga c gm : Nat} {es : List (Value × AV)} (a : InA H v ds g ga c gm es) (hv : v ≤ 8) {n m : Nat} (hn : n < ds.length) (hm : m < ds.length) (hlen : ds.length ≤ 900000) :
    TCall Tryd.prog 57 [pA g, iA n, iA m] H (Makes v g gm ds ga H 256 (fun s => sem ds n s ^^ sem ds m s) (BothR xorRl v ds n m) (fun r => eA (iA r) 0)) noE := by
  refine TCall.body Tryd.func57 rfl rfl ?_
  refine WpC.seqR (WpOps.ps rfl trivial (WpOps.nil ?_))
  refine WpC.seq ?_
  refine WpC.seqR ?_
  refine WpOps.ps rfl trivial ?_
  refine WpOps.consE rfl rfl (Exact.litSlice rfl rfl) ?_
  refine WpOps.consE rfl rfl (Exact.call rfl rfl rfl (bdd_right a [(n : Int), (m : Int)] (by simp) (by omega))) ?_
  refine WpOps.at 12 (v := .lit (.bool true)) (congrArg (fun b => AV.lit (.bool b)) (decide_eq_true (by simp; omega))) ?_
  refine WpOps.ps rfl trivial (WpOps.nil ?_)
  refine WpC.condF rfl ?_
  refine WpC.skip ?_
  refine WpC.seqR ?_
  refine WpOps.ps rfl trivial ?_
  refine WpOps.consG rfl rfl (WpO.call rfl rfl rfl ((bdd_xor a hv hn hm hlen).mono ?_ (fun _ _ h => h.elim)))
  rintro _ H' ⟨r, ds', ga', c', es', rfl, h⟩
  refine WpOps.ps rfl trivial (WpOps.nil ?_)
  refine WpC.ret ?_
  exact VEnds.ret2 rfl rfl rfl ⟨r, ds', ga', c', es', rfl, h⟩

theorem bdd_Not {H : Heap} {v : Nat} {ds : List Dec} {g ga c gm : Nat} {es : List (Value × AV)} (a : InA H v ds g ga c gm es) (hv : v ≤ 8) {n : Nat} (hn : n < ds.length) (hlen : ds.length ≤ 900000) :
    TCall Tryd.prog 41 [pA g, iA n] H (Makes v g gm ds ga H 256 (fun s => !sem ds n s) (BothR xorRl v ds n 1) (fun r => eA (iA r) 0)) noE := by
  have h2 := a.wf.two
  refine TCall.body Tryd.func41 rfl rfl ?_
  refine WpC.seqR (WpOps.ps rfl trivial (WpOps.nil ?_))
  refine WpC.seqR ?_
  refine WpOps.ps rfl trivial ?_
  refine WpOps.consG rfl rfl (WpO.call rfl rfl rfl ((bdd_Xor a hv hn (m := 1) (by omega) hlen).mono ?_ (fun _ _ h => h.elim)))
  rintro _ H' ⟨r, ds', ga', c', es', rfl, a', x', lt, hs, h⟩
  refine WpOps.ps rfl trivial (WpOps.nil ?_)
  refine WpC.ret ?_
  exact VEnds.ret2 rfl rfl rfl ⟨r, ds', ga', c', es', rfl, a', x', lt, fun s => by dsimp only at hs ⊢; rw [hs, sem_one]; cases sem ds n s <;> rfl, h⟩

theorem bdd_Var {H : Heap} {v : Nat} {ds : List Dec} {g ga c gm : Nat} {es : List (Value × AV)} (a : InA H v ds g ga c gm es) {i : Int} (hlen : ds.length ≤ 900000) :
    TCall Tryd.prog 17 [pA g, .lit (.int .i64 i)] H (fun x H' => if 0 ≤ i ∧ i < v then Makes v g gm ds ga H 1 (fun s => s i.toNat) (fun r d => (r, d) = madeOf ds ⟨i.toNat, 0, 1⟩) (fun r => eA (iA r) 0) x H' else x = eA (iA 0) 1 ∧ H' = H) noE := by
  have h2 := a.wf.two
  refine TCall.body Tryd.func17 rfl rfl ?_
  refine WpC.seqR (WpOps.ps rfl trivial (WpOps.nil ?_))
  refine WpC.seq ?_
  refine WpC.seqR ?_
  refine WpOps.cutB 10 15 (.lit (.bool (decide (¬ (0 ≤ i ∧ i < v))))) rfl ?_ ?_
  · refine WpOps.pn 3 rfl trivial ?_
    refine WpOps.split 8 rfl ?_ ?_
    · intro h
      refine WpOps.ps rfl trivial (WpOps.nil ⟨?_, rfl⟩)
      have h : i < 0 := by simpa using h
      exact congrArg (fun b => AV.lit (.bool b)) (decide_eq_true (p := ¬ (0 ≤ i ∧ i < (v : Int))) (fun h2 => by omega)).symm
    · intro h
      have h : ¬ i < 0 := by simpa using h
      refine WpOps.ps rfl trivial ?_
      refine WpOps.consE rfl rfl (Exact.load rfl rfl a.box rfl rfl) ?_
      refine WpOps.ps rfl trivial (WpOps.nil ⟨?_, rfl⟩)
      exact congrArg (fun b => AV.lit (.bool b)) (decide_eq_decide.2 (by omega))
  intro env0
  refine WpOps.nil ?_
  refine WpC.condP rfl ?_ ?_
  · intro hb
    refine WpC.seqR (WpOps.ps rfl trivial (WpOps.nil ?_))
    refine WpC.ret ?_
    refine VEnds.ret2 rfl rfl rfl ?_
    rw [if_neg hb]; exact ⟨rfl, rfl⟩
  · intro hb
    have hb : 0 ≤ i ∧ i < v := Decidable.of_not_not hb
    obtain ⟨i, rfl⟩ : ∃ k : Nat, i = k := ⟨i.toNat, by omega⟩
    have hiv : i < v := by omega
    have m : Made v ds i 0 1 := ⟨by omega, by omega, hiv, by rw [nm_low a.wf (by omega)]; exact hiv, by rw [nm_low a.wf (by omega)]; exact hiv⟩
    obtain ⟨w3, x3, lt3, len3, nm3, sem3⟩ := made_good a.wf m
    refine WpC.skip ?_
    refine WpC.seqR ?_
    refine WpOps.ps rfl trivial ?_
    refine WpOps.consG rfl rfl (WpO.call rfl rfl rfl ((bdd_made a m (by omega)).mono ?_ (fun _ _ h => h.elim)))
    rintro _ H3 ⟨rfl, ga3, c3, es3, a3, kept3⟩
    refine WpOps.ps rfl trivial (WpOps.nil ?_)
    refine WpC.ret ?_
    refine VEnds.ret2 rfl rfl rfl ?_
    rw [if_pos hb]
    exact ⟨_, _, ga3, c3, es3, rfl, a3, x3, lt3, fun s => by rw [sem3, sem_one, sem_zero]; show _ = s (Int.toNat (i : Int)); rw [Int.toNat_natCast]; cases s i <;> rfl, len3, kept3, rfl⟩
/-- a set, as an assignment -/
def asg (set : Nat) : Asg := fun i => set.testBit i

theorem InA.le {H H' : Heap} {v : Nat} {ds : List Dec} {g ga c gm : Nat} {es : List (Value × AV)} (a : InA H v ds g ga c gm es) (h : H.le H') : InA H' v ds g ga c gm es :=
  ⟨h _ _ a.box, h _ _ a.row, h _ _ a.map, a.keys, a.known, a.wf⟩

theorem bdd_holds {H : Heap} {v : Nat} {ds : List Dec} {g ga c gm : Nat} {es : List (Value × AV)} (a : InA H v ds g ga c gm es) (hv : v ≤ 8) {n set : Nat} (hn : n < ds.length) (hset : set < 2 ^ v) :
    TCall Tryd.prog 37 [pA g, iA n, iA set] H (fun x H' => x = .lit (.bool (sem ds n (asg set))) ∧ H' = H) noE := by
  have h8 := pow8 hv
  refine TCall.up (TCall.body Tryd.func37 rfl rfl ?_)
  refine WpC.seqR (WpOps.ps rfl trivial (WpOps.nil ?_))
  refine WpC.seq ?_
  refine WpC.block ?_
  refine WpC.loopK (fun x : Nat => [(1, iA x), (0, pA g), (2, iA set)]) (fun x H' => x < ds.length ∧ sem ds x (asg set) = sem ds n (asg set) ∧ H.le H') (fun x => x) n ⟨rfl, rfl, rfl, trivial⟩ ⟨hn, rfl, Heap.le_refl _⟩ ?_
  rintro k env H' ⟨hk, hs, hle⟩
  have a' := a.le hle
  refine WpC.seq ?_
  refine WpC.seqR (WpOps.ps rfl trivial (WpOps.nil ?_))
  refine WpC.condP rfl ?_ ?_
  · intro hc
    have h2 : 2 ≤ k := by omega
    obtain ⟨d, hd⟩ : ∃ d, ds[k]? = some d := ⟨_, List.getElem?_eq_getElem hk⟩
    have f := a.wf.fine k d h2 hd
    have fn := f.name
    have f1 := f.off
    have f2 := f.on
    refine WpC.skip ?_
    refine WpC.block ?_
    refine WpC.seqR ?_
    refine WpOps.ps rfl trivial ?_
    refine WpOps.consE rfl rfl (Exact.load rfl rfl a'.box rfl rfl) ?_
    refine WpOps.ps rfl trivial ?_
    refine WpOps.consE rfl rfl (Exact.indexAddr_buf (size := 3) rfl rfl rfl hk rfl rfl (by decide)) ?_
    refine WpOps.consE rfl rfl (Exact.load_row (i := k) (f := 0) rfl rfl a'.row rfl (by decide) (at_dec hd) rfl) ?_
    refine WpOps.consG rfl rfl (WpO.alloc rfl rfl fun gd hgd => ?_)
    refine WpOps.consG rfl rfl (WpO.init rfl rfl rfl rfl rfl rfl rfl rfl rfl ?_)
    refine WpOps.nil ?_
    obtain ⟨H1, e1⟩ : ∃ H1, H1 = H'.set gd (.cells 58 (encD d)) := ⟨_, rfl⟩
    refine WpC.heap e1.symm ?_
    have b1 : H1 gd = some (.cells 58 (encD d)) := by rw [e1]; exact Heap.set_same _ _ _
    have hle1 : H'.le H1 := by rw [e1]; exact Heap.set_drop hgd _
    have a1 := a'.le hle1
    refine WpC.draw [.I, .I, .I, .S, .I, .I, .S, .I, .I, .I, .S] [0, 1, 2, 3, 4, 5, 6, 7, 8, 9, 10, 11] (by kernel_rfl) (by kernel_rfl) ?_
    refine WpPi.ps rfl trivial ?_
    refine WpPi.consS rfl rfl rfl rfl (Exact.load rfl rfl b1 rfl rfl) ?_
    refine WpPi.ps rfl trivial ?_
    refine WpPi.consS rfl rfl rfl rfl (Exact.load rfl rfl b1 rfl rfl) ?_
    refine WpPi.ps rfl (by simp only [conj]; omega) ?_
    refine WpPi.at 26 (congrArg (fun b => AV.lit (.bool b)) (bit1 (s := set) (i := d.name) (by omega) (by omega))) ?_
    refine WpPi.consS rfl rfl rfl rfl (Exact.call rfl rfl rfl (bdd_side a1 (name := d.name) (on := set.testBit d.name) hd)) ?_
    refine WpPi.ps rfl trivial (WpPi.nil ?_)
    have es : sideOf d k d.name (set.testBit d.name) = if set.testBit d.name then d.on else d.off := if_neg (by omega)
    refine ⟨sideOf d k d.name (set.testBit d.name), ?_, ⟨rfl, rfl, rfl, trivial⟩, ?_, ?_, Heap.le_trans hle hle1⟩
    · rw [es]; split <;> omega
    · rw [es]; split <;> omega
    · rw [es, ← hs, sem_step a.wf h2 hd]; rfl
  · intro hc
    have h1 : k ≤ 1 := by omega
    refine WpC.exit ?_
    refine WpC.seqR (WpOps.ps rfl trivial (WpOps.nil ?_))
    refine WpC.ret ?_
    refine VEnds.ret1 rfl rfl ?_
    refine ⟨_, _, Up.drop hle _, ?_, rfl⟩
    rw [← hs]
    rcases (show k = 0 ∨ k = 1 by omega) with rfl | rfl <;> rfl

theorem bdd_Vars {H : Heap} {v : Nat} {ds : List Dec} {g ga c gm : Nat} {es : List (Value × AV)} (a : InA H v ds g ga c gm es) : TCall Tryd.prog 24 [pA g] H (fun x H' => x = iA v ∧ H' = H) noE := by
  refine TCall.body Tryd.func24 rfl rfl ?_
  refine WpC.seqR (WpOps.ps rfl trivial (WpOps.nil ?_))
  refine WpC.seqR ?_
  refine WpOps.ps rfl trivial ?_
  refine WpOps.consE rfl rfl (Exact.load rfl rfl a.box rfl rfl) ?_
  refine WpOps.ps rfl trivial (WpOps.nil ?_)
  refine WpC.ret ?_
  exact VEnds.ret1 rfl rfl ⟨rfl, rfl⟩

/-- Holds: any condition, any set -/
def holdsOf (v : Nat) (ds : List Dec) (n set : Int) : AV :=
  if 0 ≤ n ∧ n < ds.length then (if 0 ≤ set ∧ set < (2 ^ v : Nat) then .tup [.lit (.bool (sem ds n.toNat (asg set.toNat))), iA 0] else .tup [.lit (.bool false), iA 1]) else .tup [.lit (.bool false), iA 10]
theorem right1 (len : Nat) (n : Int) : rightOf len [n] = decide (0 ≤ n ∧ n < len) := by unfold rightOf; simp
theorem bdd_Holds {H : Heap} {v : Nat} {ds : List Dec} {g ga c gm : Nat} {es : List (Value × AV)} (a : InA H v ds g ga c gm es) (hv : v ≤ 8) (n set : Int) (hlen : ds.length ≤ 900000) :
    TCall Tryd.prog 23 [pA g, .lit (.int .i64 n), .lit (.int .i64 set)] H (fun x H' => x = holdsOf v ds n set ∧ H' = H) noE := by
  have h8 := pow8 hv
  refine TCall.body Tryd.func23 rfl rfl ?_
  refine WpC.seqR (WpOps.ps rfl trivial (WpOps.nil ?_))
  refine WpC.seq ?_
  refine WpC.block ?_
  refine WpC.seqR ?_
  refine WpOps.ps rfl trivial ?_
  refine WpOps.consE rfl rfl (Exact.litSlice rfl rfl) ?_
  refine WpOps.consE rfl rfl (Exact.call rfl rfl rfl (bdd_right a [n] (by simp) (by omega))) ?_
  refine WpOps.at 12 (congrArg (fun b => AV.lit (.bool b)) (right1 ds.length n)) ?_
  refine WpOps.ps rfl trivial (WpOps.nil ?_)
  refine WpC.condN rfl ?_ ?_
  · intro hc
    refine WpC.seqR (WpOps.ps rfl trivial (WpOps.nil ?_))
    refine WpC.ret ?_
    refine VEnds.ret2 rfl rfl rfl ⟨?_, rfl⟩
    unfold holdsOf; rw [if_neg hc]; rfl
  · intro hc
    refine WpC.seqR ?_
    refine WpOps.cutB 12 14 (.lit (.bool (decide (¬ (0 ≤ set ∧ set < (2 ^ v : Nat)))))) rfl ?_ ?_
    · refine WpOps.pn 3 rfl trivial ?_
      refine WpOps.split 17 rfl ?_ ?_
      · intro h
        refine WpOps.ps rfl trivial (WpOps.nil ⟨?_, rfl⟩)
        have h : set < 0 := by simpa using h
        exact congrArg (fun b => AV.lit (.bool b)) (decide_eq_true (p := ¬ (0 ≤ set ∧ set < ((2 ^ v : Nat) : Int))) (fun h2 => by omega)).symm
      · intro h
        have h : ¬ set < 0 := by simpa using h
        refine WpOps.ps rfl trivial ?_
        refine WpOps.consE rfl rfl (Exact.load rfl rfl a.box rfl rfl) ?_
        refine WpOps.ps rfl (by simp only [conj]; omega) (WpOps.nil ⟨?_, rfl⟩)
        exact congrArg (fun b => AV.lit (.bool b)) (decide_eq_decide.2 (by rw [shl1 hv]; omega))
    intro env0
    refine WpOps.nil ?_
    refine WpC.condP rfl ?_ ?_
    · intro hb
      refine WpC.seqR (WpOps.ps rfl trivial (WpOps.nil ?_))
      refine WpC.ret ?_
      refine VEnds.ret2 rfl rfl rfl ⟨?_, rfl⟩
      unfold holdsOf; rw [if_pos hc, if_neg hb]; rfl
    · intro hb
      have hb : 0 ≤ set ∧ set < (2 ^ v : Nat) := Decidable.of_not_not hb
      have e : holdsOf v ds n set = .tup [.lit (.bool (sem ds n.toNat (asg set.toNat))), iA 0] := by unfold holdsOf; rw [if_pos hc, if_pos hb]
      rw [e]
      obtain ⟨n, rfl⟩ : ∃ k : Nat, n = k := ⟨n.toNat, by omega⟩
      obtain ⟨set, rfl⟩ : ∃ k : Nat, set = k := ⟨set.toNat, by omega⟩
      refine WpC.skip ?_
      refine WpC.seqR ?_
      refine WpOps.ps rfl trivial ?_
      refine WpOps.consE rfl rfl (Exact.call rfl rfl rfl (bdd_holds a hv (n := n) (set := set) (by omega) (by omega))) ?_
      refine WpOps.ps rfl trivial (WpOps.nil ?_)
      refine WpC.ret ?_
      exact VEnds.ret2 rfl rfl rfl ⟨rfl, rfl⟩

/-- a new arena -/
theorem bdd_New {v : Int} (H : Heap) : TCall Tryd.prog 10 [.lit (.int .i64 v)] H (fun x H' => if 0 ≤ v ∧ v ≤ 8 then ∃ g ga c gm, x = eA (pA g) 0 ∧ InA H' v.toNat [⟨v.toNat, 0, 0⟩, ⟨v.toNat, 0, 0⟩] g ga c gm [] ∧ H.le H' ∧ H g = none ∧ H ga = none ∧ H gm = none else x = eA (.lit (.pointer none)) 1 ∧ H' = H) noE := by
  refine TCall.body Tryd.func10 rfl rfl ?_
  refine WpC.seqR (WpOps.ps rfl trivial (WpOps.nil ?_))
  refine WpC.seq ?_
  refine WpC.seqR ?_
  refine WpOps.cutB 6 10 (.lit (.bool (decide (¬ (0 ≤ v ∧ v ≤ 8))))) rfl ?_ ?_
  · refine WpOps.pn 3 rfl trivial ?_
    refine WpOps.split 7 rfl ?_ ?_
    · intro h
      refine WpOps.ps rfl trivial (WpOps.nil ⟨?_, rfl⟩)
      have h : v < 0 := by simpa using h
      exact congrArg (fun b => AV.lit (.bool b)) (decide_eq_true (p := ¬ (0 ≤ v ∧ v ≤ 8)) (fun h2 => by omega)).symm
    · intro h
      have h : ¬ v < 0 := by simpa using h
      refine WpOps.ps rfl trivial (WpOps.nil ⟨?_, rfl⟩)
      exact congrArg (fun b => AV.lit (.bool b)) (decide_eq_decide.2 (by show (8 : Int) < v ↔ _; omega))
  intro env0
  refine WpOps.nil ?_
  refine WpC.condP rfl ?_ ?_
  · intro hc
    refine WpC.seqR (WpOps.ps rfl trivial (WpOps.nil ?_))
    refine WpC.ret ?_
    refine VEnds.ret2 rfl rfl rfl ?_
    rw [if_neg hc]; exact ⟨rfl, rfl⟩
  · intro hc
    have hc : 0 ≤ v ∧ v ≤ 8 := Decidable.of_not_not hc
    obtain ⟨v, rfl⟩ : ∃ k : Nat, v = k := ⟨v.toNat, by omega⟩
    refine WpC.skip ?_
    refine WpC.seqR ?_
    refine WpOps.ps rfl trivial ?_
    refine WpOps.consG rfl rfl (WpO.alloc rfl rfl fun gl hgl => ?_)
    refine WpOps.consG rfl rfl (WpO.init rfl rfl rfl rfl rfl rfl rfl rfl rfl ?_)
    refine WpOps.nil ?_
    obtain ⟨H1, e1⟩ : ∃ H1, H1 = H.set gl (.cells 58 (encD ⟨v, 0, 0⟩)) := ⟨_, rfl⟩
    refine WpC.heap e1.symm ?_
    have b1 : H1 gl = some (.cells 58 (encD ⟨v, 0, 0⟩)) := by rw [e1]; exact Heap.set_same _ _ _
    have le1 : H.le H1 := by rw [e1]; exact Heap.set_drop hgl _
    refine WpC.seqR ?_
    refine WpOps.ps rfl trivial ?_
    refine WpOps.consE rfl rfl (Exact.load rfl rfl b1 rfl rfl) ?_
    refine WpOps.consE rfl rfl (Exact.load rfl rfl b1 rfl rfl) ?_
    refine WpOps.consG rfl rfl (WpO.litSlice (e := 58) rfl rfl rfl fun ga hga => ?_)
    refine WpOps.consG rfl rfl (WpO.makeMap rfl fun gm hgm => ?_)
    refine WpOps.ps rfl trivial ?_
    refine WpOps.consG rfl rfl (WpO.box rfl rfl fun g hg => ?_)
    refine WpOps.ps rfl trivial (WpOps.nil ?_)
    refine WpC.ret ?_
    refine VEnds.ret2 rfl rfl rfl ?_
    rw [if_pos hc]
    refine ⟨g, ga, 2, gm, rfl, ⟨Heap.set_same _ _ _, Heap.set_old (Heap.set_old (Heap.set_same _ _ _) hgm) hg, Heap.set_old (Heap.set_same _ _ _) hg, (fun e he => by cases he), (fun d => ?_), ?_⟩, ?_, ?_, Heap.le_none le1 hga, ?_⟩
    · rfl
    · refine ⟨rfl, rfl, fun n d hn hd => ?_, fun i j d hi hj h1 h2 => ?_⟩
      · have := (List.getElem?_eq_some_iff.1 hd).1; simp at this; omega
      · have := (List.getElem?_eq_some_iff.1 h1).1; simp at this; omega
    · exact Heap.le_trans le1 (Heap.le_trans (Heap.set_drop hga _) (Heap.le_trans (Heap.set_drop hgm _) (Heap.set_drop hg _)))
    · exact Heap.le_none (Heap.le_trans le1 (Heap.le_trans (Heap.set_drop hga _) (Heap.set_drop hgm _))) hg
    · exact Heap.le_none (Heap.le_trans le1 (Heap.set_drop hga _)) hgm
end Go.Proofs.YtffgaoehhmgbjaaDoor.Arena
