/-
  What comes of two conditions by a rule for what always, or never, holds: the closure that works it out, each two once.
-/
import Derived.Test.YtkhgiieglpdejaaArena
set_option linter.unusedVariables false
set_option linter.unusedSimpArgs false
namespace Go.Proofs.Ytkhgiieglpdejaa
open Go Go.Vc Go.Vc.Bdd
attribute [local irreducible] WpC WpOps WpPi WpO Exact TCall VEnds

def keyP (n m : Nat) : Value := .agg ⟨[.int .i64 n, .int .i64 m]⟩
theorem keyP_ok (n m : Nat) : isKey Try.prog 85 (keyP n m) = true := by
  have : isKey Try.prog 85 (.agg ⟨[.int .i64 n, .int .i64 m]⟩) = true := by kernel_rfl
  exact this
theorem keyP_inj {a b n m : Nat} (h : keyP a b = keyP n m) : a = n ∧ b = m := by
  unfold keyP at h
  simp at h
  omega

/-- what is right of what came of two -/
structure Good (v : Nat) (ds : List Dec) (op : Bool → Bool → Bool) (n m r : Nat) : Prop where
  hn : n < ds.length
  hm : m < ds.length
  hr : r < ds.length
  hsem : ∀ s, sem ds r s = op (sem ds n s) (sem ds m s)
  hnm : min (nm v ds n) (nm v ds m) ≤ nm v ds r
theorem Good.ext {v : Nat} {ds ds' : List Dec} {op : Bool → Bool → Bool} {n m r : Nat} (h : Good v ds op n m r) (e : Ext ds ds') (w : WF v ds) : Good v ds' op n m r :=
  ⟨Nat.lt_of_lt_of_le h.hn e.len, Nat.lt_of_lt_of_le h.hm e.len, Nat.lt_of_lt_of_le h.hr e.len, fun s => by rw [e.sem w _ _ h.hr, e.sem w _ _ h.hn, e.sem w _ _ h.hm]; exact h.hsem s, by rw [e.nm h.hr, e.nm h.hn, e.nm h.hm]; exact h.hnm⟩
def Done (v : Nat) (ds : List Dec) (op : Bool → Bool → Bool) (es : List (Value × AV)) : Prop := keysOk Try.prog 85 es ∧ ∀ n m x, mget es (keyP n m) = some x → ∃ r, x = iA r ∧ Good v ds op n m r
theorem Done.ext {v : Nat} {ds ds' : List Dec} {op : Bool → Bool → Bool} {es : List (Value × AV)} (h : Done v ds op es) (e : Ext ds ds') (w : WF v ds) : Done v ds' op es :=
  ⟨h.1, fun n m x hx => by obtain ⟨r, hr, hg⟩ := h.2 n m x hx; exact ⟨r, hr, hg.ext e w⟩⟩

/-- what the closure has taken up -/
structure Clo (H : Heap) (fr : Nat) (g gr gd gb gw gmd : Nat) : Prop where
  rule : H gr = some (.cells 81 [.clo (.func fr) [] []])
  done : H gd = some (.cells 83 [.lit (.map (some gmd))])
  box : H gb = some (.cells 27 [pA g])
  work : H gw = some (.cells 73 [.clo (.func 45) [] [pA gr, pA gd, pA gb, pA gw]])

def SB (g gm gmd : Nat) (k : Nat) : Prop := k = g ∨ k = gm ∨ k = gmd
/-- .. and none of which is written -/
theorem Clo.kept {H H' : Heap} {fr v : Nat} {ds : List Dec} {g ga c gm : Nat} {es es2 : List (Value × AV)} {gr gd gb gw gmd ga' : Nat} (k : Clo H fr g gr gd gb gw gmd) (a : InA H v ds g ga c gm es) (hd : H gmd = some (.map es2)) (h : Kept (SB g gm gmd) H ga ga' H') : Clo H' fr g gr gd gb gw gmd := by
  have far : ∀ q t cs, H q = some (.cells t cs) → t ≠ 69 → H' q = some (.cells t cs) := fun q t cs hq ht => by
    refine h.keep q _ hq (fun e => ?_) (fun hS => ?_)
    · rw [e, a.row] at hq; cases hq
    · rcases hS with e | e | e
      · rw [e, a.box] at hq; injection hq with hq; injection hq with h1 h2; exact ht h1.symm
      · rw [e, a.map] at hq; cases hq
      · rw [e, hd] at hq; cases hq
  exact ⟨far _ _ _ k.rule (by decide), far _ _ _ k.done (by decide), far _ _ _ k.box (by decide), far _ _ _ k.work (by decide)⟩

theorem sem_side {v : Nat} {ds : List Dec} (w : WF v ds) {n name : Nat} {on : Bool} {d : Dec} (hd : ds[n]? = some d) (hn : name ≤ nm v ds n) (hv : name < v) : sideOf d n name on < ds.length ∧ name < nm v ds (sideOf d n name on) ∧ ∀ s : Asg, sem ds (sideOf d n name on) s = sem ds n (upd s name on) := by
  have hlt := (List.getElem?_eq_some_iff.1 hd).1
  rw [nm_some hd] at hn
  by_cases h : d.name ≠ name ∨ n < 2
  · have e : sideOf d n name on = n := if_pos h
    rw [e]
    have hlt2 : name < nm v ds n := by
      rw [nm_some hd]
      rcases h with h | h
      · omega
      · have := nm_low w (n := n) (by omega)
        rw [nm_some hd] at this; omega
    exact ⟨hlt, hlt2, fun s => (sem_upd w hlt hlt2 s on).symm⟩
  · have h1 : d.name = name := by omega
    have h2 : 2 ≤ n := by omega
    have f := w.fine n d h2 hd
    have := f.off; have := f.on
    have e : sideOf d n name on = if on then d.on else d.off := if_neg h
    rw [e]
    refine ⟨by split <;> omega, ?_, fun s => ?_⟩
    · rw [← h1]; split
      · exact f.onn
      · exact f.offn
    · rw [sem_step w h2 hd, h1, upd_same]
      cases on
      · simp only [Bool.false_eq_true, if_false]
        exact (sem_upd w (by omega) (by rw [← h1]; exact f.offn) s false).symm
      · simp only [if_true]
        exact (sem_upd w (by omega) (by rw [← h1]; exact f.onn) s true).symm

/-- what is made of two sides -/
theorem made_good {v : Nat} {ds : List Dec} (w : WF v ds) {name off on : Nat} (m : Made v ds name off on) : WF v (madeOf ds ⟨name, off, on⟩).2 ∧ Ext ds (madeOf ds ⟨name, off, on⟩).2 ∧ (madeOf ds ⟨name, off, on⟩).1 < (madeOf ds ⟨name, off, on⟩).2.length ∧ (madeOf ds ⟨name, off, on⟩).2.length ≤ ds.length + 1 ∧
    name ≤ nm v (madeOf ds ⟨name, off, on⟩).2 (madeOf ds ⟨name, off, on⟩).1 ∧ ∀ s : Asg, sem (madeOf ds ⟨name, off, on⟩).2 (madeOf ds ⟨name, off, on⟩).1 s = if s name then sem ds on s else sem ds off s := by
  by_cases hne : off = on
  · have e : madeOf ds ⟨name, off, on⟩ = (off, ds) := if_pos hne
    rw [e]
    exact ⟨w, .refl _, m.hoff, by simp, Nat.le_of_lt m.offn, fun s => by rw [hne]; split <;> rfl⟩
  · have e : madeOf ds ⟨name, off, on⟩ = match find ds ⟨name, off, on⟩ with
      | some n => (n, ds)
      | none => (ds.length, ds ++ [⟨name, off, on⟩]) := if_neg hne
    cases hf : find ds ⟨name, off, on⟩ with
    | some n =>
      rw [hf] at e
      obtain ⟨h1, h2, h3⟩ := find_some hf
      rw [e]
      exact ⟨w, .refl _, h2, by simp, by rw [nm_some h3]; exact Nat.le_refl _, fun s => by rw [sem_step w h1 h3]; split <;> rfl⟩
    | none =>
      rw [hf] at e
      have w' := w.push m hne hf
      have ex : Ext ds (ds ++ [⟨name, off, on⟩]) := ⟨_, rfl⟩
      have hg : (ds ++ [(⟨name, off, on⟩ : Dec)])[ds.length]? = some ⟨name, off, on⟩ := by rw [List.getElem?_append_right (Nat.le_refl _)]; simp
      rw [e]
      refine ⟨w', ex, by simp, by simp, by rw [nm_some hg]; exact Nat.le_refl _, fun s => ?_⟩
      show sem (ds ++ [⟨name, off, on⟩]) ds.length s = _
      rw [sem_step w' w.two hg]
      simp only
      rw [← ex.sem w _ _ m.hoff, ← ex.sem w _ _ m.hon]
      split <;> rfl

theorem upd_self (s : Asg) (i : Nat) : upd s i (s i) = s := by funext j; simp only [upd]; split <;> simp_all

theorem minA (a b : Nat) : AV.lit (.int .i64 (if (b : Int) < (a : Int) then (b : Int) else (a : Int))) = iA (min a b) := by
  refine congrArg (fun z => AV.lit (.int .i64 z)) ?_
  split <;> omega

theorem bdd_work {fr : Nat} {op : Bool → Bool → Bool} {rl : Nat → Nat → Option Nat} (R : Rule fr op rl) {v g gm gr gd gb gw gmd : Nat} : ∀ (k n m : Nat) (ds : List Dec) (H : Heap) (ga c : Nat) (es es2 : List (Value × AV)), n < ds.length → m < ds.length → v ≤ min (nm v ds n) (nm v ds m) + k → ds.length + 2 ^ k ≤ 1000000 →
    InA H v ds g ga c gm es → Clo H fr g gr gd gb gw gmd → H gmd = some (.map es2) → Done v ds op es2 → gmd ≠ gm →
    TCall Try.prog 45 [iA n, iA m, pA gr, pA gd, pA gb, pA gw] H (fun x H' => ∃ r ds' ga' c' es' es2', x = iA r ∧ InA H' v ds' g ga' c' gm es' ∧ Ext ds ds' ∧ Good v ds' op n m r ∧ ds'.length + 1 ≤ ds.length + 2 ^ k ∧ H' gmd = some (.map es2') ∧ Done v ds' op es2' ∧ Kept (SB g gm gmd) H ga ga' H') noE := by
  intro k
  induction k using Nat.strongRecOn with
  | _ k ih =>
    intro n m ds H ga c es es2 hn hm hk hlen a q hd done hne
    have h1k : 1 ≤ 2 ^ k := Nat.one_le_two_pow
    refine TCall.body Try.func45 rfl rfl ?_
    refine WpC.seqR (WpOps.ps rfl trivial (WpOps.nil ?_))
    refine WpC.seq ?_
    refine WpC.seqR ?_
    refine WpOps.consE rfl rfl (Exact.load rfl rfl q.rule rfl rfl) ?_
    refine WpOps.ps rfl trivial ?_
    have hr := R.call n m H
    cases hrl : rl n m with
    | some r =>
      rw [hrl] at hr
      refine WpOps.consE rfl rfl (Exact.call_clo rfl rfl R.enter rfl hr) ?_
      refine WpOps.ps rfl trivial (WpOps.nil ?_)
      refine WpC.seqR (WpOps.ps rfl trivial (WpOps.nil ?_))
      refine WpC.condT rfl ?_
      refine WpC.seqR (WpOps.ps rfl trivial (WpOps.nil ?_))
      refine WpC.ret ?_
      refine VEnds.ret1 rfl rfl ?_
      have h2 := a.wf.two
      have hw := R.which n m r hrl
      refine ⟨r, ds, ga, c, es, es2, rfl, a, .refl _, ⟨hn, hm, by omega, fun s => R.hit n m r ds s hrl, ?_⟩, by omega, hd, done, .refl _ _ _⟩
      rcases hw with rfl | rfl | hw
      · exact Nat.min_le_left _ _
      · exact Nat.min_le_right _ _
      · rw [nm_low a.wf hw]; exact Nat.le_trans (Nat.min_le_left _ _) (nm_le a.wf n)
    | none =>
      rw [hrl] at hr
      refine WpOps.consE rfl rfl (Exact.call_clo rfl rfl R.enter rfl hr) ?_
      refine WpOps.ps rfl trivial (WpOps.nil ?_)
      refine WpC.seqR (WpOps.ps rfl trivial (WpOps.nil ?_))
      refine WpC.condF rfl ?_
      refine WpC.skip ?_
      refine WpC.seq ?_
      refine WpC.seqR ?_
      refine WpOps.consE rfl rfl (Exact.load rfl rfl q.done rfl rfl) ?_
      refine WpOps.ps rfl trivial ?_
      cases hg : mget es2 (keyP n m) with
      | some x =>
        obtain ⟨r, rfl, good⟩ := done.2 n m x hg
        refine WpOps.consE rfl rfl (Exact.lookup rfl Try.underlying83 rfl hd rfl (keyP_ok n m) done.1 hg) ?_
        refine WpOps.ps rfl trivial (WpOps.nil ?_)
        refine WpC.seqR (WpOps.ps rfl trivial (WpOps.nil ?_))
        refine WpC.condT rfl ?_
        refine WpC.seqR (WpOps.ps rfl trivial (WpOps.nil ?_))
        refine WpC.ret ?_
        refine VEnds.ret1 rfl rfl ?_
        exact ⟨r, ds, ga, c, es, es2, rfl, a, .refl _, good, by omega, hd, done, .refl _ _ _⟩
      | none =>
        refine WpOps.consE rfl rfl (Exact.lookup_none rfl Try.underlying83 rfl rfl hd rfl (keyP_ok n m) done.1 hg) ?_
        refine WpOps.ps rfl trivial (WpOps.nil ?_)
        refine WpC.seqR (WpOps.ps rfl trivial (WpOps.nil ?_))
        refine WpC.condF rfl ?_
        refine WpC.skip ?_
        -- the name that comes first
        obtain ⟨dn, hdn⟩ : ∃ d, ds[n]? = some d := ⟨_, List.getElem?_eq_getElem hn⟩
        obtain ⟨dm, hdm⟩ : ∃ d, ds[m]? = some d := ⟨_, List.getElem?_eq_getElem hm⟩
        have en : nm v ds n = dn.name := nm_some hdn
        have em : nm v ds m = dm.name := nm_some hdm
        have hname : min dn.name dm.name < v := by
          rcases R.miss n m hrl with h | h
          · have := (a.wf.fine n dn h hdn).name; omega
          · have := (a.wf.fine m dm h hdm).name; omega
        rw [en, em] at hk
        obtain ⟨name, hnm⟩ : ∃ x, x = min dn.name dm.name := ⟨_, rfl⟩
        obtain ⟨k, rfl⟩ : ∃ j, k = j + 1 := ⟨k - 1, by omega⟩
        have hpk : 2 ^ (k + 1) = 2 ^ k + 2 ^ k := by rw [Nat.pow_succ]; omega
        have h1k : 1 ≤ 2 ^ k := Nat.one_le_two_pow
        refine WpC.seqD [.S, .I, .I, .S, .I, .I, .I, .S, .S, .I, .I, .S, .I, .I, .I, .S] [0, 1, 2, 3, 4, 5, 6, 7, 8, 9, 10, 11, 12, 13, 14, 15, 16, 17] (by kernel_rfl) (by kernel_rfl) ?_
        refine WpPi.consS rfl rfl rfl rfl (Exact.load rfl rfl q.box rfl rfl) ?_
        refine WpPi.ps rfl trivial ?_
        refine WpPi.consS rfl rfl rfl rfl (Exact.load rfl rfl a.box rfl rfl) ?_
        refine WpPi.ps rfl trivial ?_
        refine WpPi.consI rfl rfl rfl rfl (fun _ => Exact.indexAddr_buf (size := 3) rfl rfl rfl hn rfl rfl (by decide)) ?_
        refine WpPi.ps rfl trivial ?_
        refine WpPi.consS rfl rfl rfl rfl (Exact.load_row (i := n) (f := 0) rfl rfl a.row rfl (by decide) (at_dec hdn) rfl) ?_
        refine WpPi.consS rfl rfl rfl rfl (Exact.load rfl rfl q.box rfl rfl) ?_
        refine WpPi.ps rfl trivial ?_
        refine WpPi.consS rfl rfl rfl rfl (Exact.load rfl rfl a.box rfl rfl) ?_
        refine WpPi.ps rfl trivial ?_
        refine WpPi.consI rfl rfl rfl rfl (fun _ => Exact.indexAddr_buf (size := 3) rfl rfl rfl hm rfl rfl (by decide)) ?_
        refine WpPi.ps rfl trivial ?_
        refine WpPi.consS rfl rfl rfl rfl (Exact.load_row (i := m) (f := 0) rfl rfl a.row rfl (by decide) (at_dec hdm) rfl) ?_
        refine WpPi.ps rfl trivial (WpPi.nil ?_)
        refine WpC.at 13 (v := iA name) ((minA dn.name dm.name).trans (congrArg (fun z : Nat => iA z) hnm.symm)) ?_
        -- the side without it
        obtain ⟨ln, lnn, lns⟩ := sem_side a.wf (on := false) hdn (name := name) (by omega) (by omega)
        obtain ⟨lm, lmn, lms⟩ := sem_side a.wf (on := false) hdm (name := name) (by omega) (by omega)
        refine WpC.seqD [.S, .S, .I, .I, .S, .S, .I, .I, .S, .E] [0, 1, 2, 3, 4, 5, 6, 7, 8, 9, 10] (by kernel_rfl) (by kernel_rfl) ?_
        refine WpPi.consS rfl rfl rfl rfl (Exact.load rfl rfl q.work rfl rfl) ?_
        refine WpPi.consS rfl rfl rfl rfl (Exact.load rfl rfl q.box rfl rfl) ?_
        refine WpPi.ps rfl trivial ?_
        refine WpPi.consS rfl rfl rfl rfl (Exact.call rfl rfl rfl (bdd_side a (name := name) (on := false) hdn)) ?_
        refine WpPi.consS rfl rfl rfl rfl (Exact.load rfl rfl q.box rfl rfl) ?_
        refine WpPi.ps rfl trivial ?_
        refine WpPi.consS rfl rfl rfl rfl (Exact.call rfl rfl rfl (bdd_side a (name := name) (on := false) hdm)) ?_
        refine WpPi.consE rfl rfl rfl rfl (WpO.call_clo rfl rfl rfl rfl ((ih k (by omega) (sideOf dn n name false) (sideOf dm m name false) ds H ga c es es2 ln lm (by omega) (by omega) a q hd done hne).mono ?_ (fun _ _ h => h)))
        rintro _ H1 ⟨r1, ds1, ga1, c1, es1, es21, rfl, a1, x1, good1, len1, hd1, done1, kept1⟩
        have q1 := q.kept a hd kept1
        refine WpPi.ps rfl trivial (WpPi.nil ?_)
        -- the side with it
        have hdn1 : ds1[n]? = some dn := by rw [x1.get hn]; exact hdn
        have hdm1 : ds1[m]? = some dm := by rw [x1.get hm]; exact hdm
        obtain ⟨pn, pnn, pns⟩ := sem_side a1.wf (on := true) hdn1 (name := name) (by rw [nm_some hdn1]; omega) (by omega)
        obtain ⟨pm, pmn, pms⟩ := sem_side a1.wf (on := true) hdm1 (name := name) (by rw [nm_some hdm1]; omega) (by omega)
        refine WpC.seqD [.S, .S, .I, .I, .S, .S, .I, .I, .S, .E] [0, 1, 2, 3, 4, 5, 6, 7, 8, 9, 10] (by kernel_rfl) (by kernel_rfl) ?_
        refine WpPi.consS rfl rfl rfl rfl (Exact.load rfl rfl q1.work rfl rfl) ?_
        refine WpPi.consS rfl rfl rfl rfl (Exact.load rfl rfl q1.box rfl rfl) ?_
        refine WpPi.ps rfl trivial ?_
        refine WpPi.consS rfl rfl rfl rfl (Exact.call rfl rfl rfl (bdd_side a1 (name := name) (on := true) hdn1)) ?_
        refine WpPi.consS rfl rfl rfl rfl (Exact.load rfl rfl q1.box rfl rfl) ?_
        refine WpPi.ps rfl trivial ?_
        refine WpPi.consS rfl rfl rfl rfl (Exact.call rfl rfl rfl (bdd_side a1 (name := name) (on := true) hdm1)) ?_
        refine WpPi.consE rfl rfl rfl rfl (WpO.call_clo rfl rfl rfl rfl ((ih k (by omega) (sideOf dn n name true) (sideOf dm m name true) ds1 H1 ga1 c1 es1 es21 pn pm (by omega) (by omega) a1 q1 hd1 done1 hne).mono ?_ (fun _ _ h => h)))
        rintro _ H2 ⟨r2, ds2, ga2, c2, es2', es22, rfl, a2, x2, good2, len2, hd2, done2, kept2⟩
        have q2 := q1.kept a1 hd1 kept2
        refine WpPi.ps rfl trivial (WpPi.nil ?_)
        -- what is made of both
        have hl1 := x1.len
        have hl2 := x2.len
        have m2 : Made v ds2 name r1 r2 := ⟨by have := good1.hr; omega, good2.hr, by omega, by rw [x2.nm good1.hr]; have := good1.hnm; rw [x1.nm ln, x1.nm lm] at this; omega, by have := good2.hnm; rw [x2.nm pn, x2.nm pm] at this; omega⟩
        have l2 : ds2.length ≤ 1000000 := by omega
        obtain ⟨w3, x3, lt3, len3, nm3, sem3⟩ := made_good a2.wf m2
        refine WpC.seqR ?_
        refine WpOps.consE rfl rfl (Exact.load rfl rfl q2.box rfl rfl) ?_
        refine WpOps.ps rfl trivial ?_
        refine WpOps.consG rfl rfl (WpO.call rfl rfl rfl ((bdd_made a2 m2 l2).mono ?_ (fun _ _ h => h.elim)))
        rintro _ H3 ⟨rfl, ga3, c3, es3, a3, kept3⟩
        have g1 : gmd ≠ g := fun e => by have := hd2; rw [e, a2.box] at this; cases this
        have g2 : gmd ≠ ga2 := fun e => by have := hd2; rw [e, a2.row] at this; cases this
        have hd3 := kept3.keep _ _ hd2 g2 (fun h => h.elim g1 hne)
        have g3 : gmd ≠ ga3 := fun e => by have := hd3; rw [e, a3.row] at this; cases this
        have kept3' : Kept (SB g gm gmd) H2 ga2 ga3 H3 := kept3.mono fun k h => h.elim .inl (fun h => .inr (.inl h))
        have q3 := q2.kept a2 hd2 kept3'
        refine WpOps.ps rfl trivial (WpOps.nil ?_)
        refine WpC.seqR ?_
        refine WpOps.consE rfl rfl (Exact.load rfl rfl q3.done rfl rfl) ?_
        refine WpOps.ps rfl trivial ?_
        refine WpOps.consG rfl rfl (WpO.mapUpdate (kv := keyP n m) rfl Try.underlying83 rfl hd3 rfl rfl (keyP_ok n m) done2.1 ?_)
        refine WpOps.nil ?_
        refine WpC.seqR (WpOps.ps rfl trivial (WpOps.nil ?_))
        refine WpC.ret ?_
        refine VEnds.ret1 rfl rfl ?_
        have xx : Ext ds (madeOf ds2 ⟨name, r1, r2⟩).2 := x1.trans (x2.trans x3)
        have x12 : Ext ds ds2 := x1.trans x2
        have good : Good v (madeOf ds2 ⟨name, r1, r2⟩).2 op n m (madeOf ds2 ⟨name, r1, r2⟩).1 := by
          refine ⟨Nat.lt_of_lt_of_le hn xx.len, Nat.lt_of_lt_of_le hm xx.len, lt3, fun s => ?_, by rw [xx.nm hn, xx.nm hm, en, em, ← hnm]; exact nm3⟩
          rw [sem3, xx.sem a.wf _ _ hn, xx.sem a.wf _ _ hm]
          cases hs : s name with
          | true =>
            have us : upd s name true = s := by rw [← hs]; exact upd_self s name
            simp only [if_true]
            rw [good2.hsem, x2.sem a1.wf _ _ pn, x2.sem a1.wf _ _ pm, pns, pms, us, x1.sem a.wf _ _ hn, x1.sem a.wf _ _ hm]
          | false =>
            have us : upd s name false = s := by rw [← hs]; exact upd_self s name
            simp only [Bool.false_eq_true, if_false]
            rw [x2.sem a1.wf _ _ good1.hr, good1.hsem, x1.sem a.wf _ _ ln, x1.sem a.wf _ _ lm, lns, lms, us]
        have stay : ∀ {H : Heap} {ds : List Dec} {ga c : Nat} {es es2 : List (Value × AV)}, InA H v ds g ga c gm es → H gmd = some (.map es2) → ∀ k, SB g gm gmd k → ∃ o, H k = some o := fun a h k hk => by
          rcases hk with rfl | rfl | rfl
          · exact ⟨_, a.box⟩
          · exact ⟨_, a.map⟩
          · exact ⟨_, h⟩
        refine ⟨_, _, ga3, c3, es3, mput es22 (keyP n m) (iA (madeOf ds2 ⟨name, r1, r2⟩).1), rfl, ⟨Heap.set_far a3.box g1.symm, Heap.set_far a3.row g3.symm, Heap.set_far a3.map hne.symm, a3.keys, a3.known, a3.wf⟩, xx, good, by omega, Heap.set_same _ _ _, ⟨keysOk_put done2.1 (keyP_ok n m), fun n' m' x hx => ?_⟩, ?_⟩
        · by_cases he : keyP n' m' = keyP n m
          · obtain ⟨rfl, rfl⟩ := keyP_inj he
            rw [mget_put_same (keyP_ok _ _) done2.1] at hx
            injection hx with hx
            exact ⟨_, hx.symm, good⟩
          · rw [mget_put_ne (keyP_ok _ _) (keyP_ok _ _) he done2.1] at hx
            obtain ⟨r, hr, hg⟩ := done2.2 n' m' x hx
            exact ⟨r, hr, hg.ext x3 a2.wf⟩
        · exact (kept1.trans kept2 (stay a1 hd1)).trans (kept3'.trans ⟨fun k o hk _ hS => Heap.set_far hk (fun e => hS (.inr (.inr e))), .inl rfl⟩ (stay a3 hd3)) (stay a2 hd2)
end Go.Proofs.Ytkhgiieglpdejaa
