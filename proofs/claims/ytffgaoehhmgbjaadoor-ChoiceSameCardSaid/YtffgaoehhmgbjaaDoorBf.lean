/-
  Package bdd in plain words: what is made of decisions, call by call. No program in sight.
-/
import Derived.Test.YtffgaoehhmgbjaaDoorBdd
import Derived.Test.YtffgaoehhmgbjaaDoorPl
set_option linter.unusedVariables false
set_option linter.unusedSimpArgs false
namespace Go.Vc.Bdd
def sideOf (d : Dec) (n name : Nat) (on : Bool) : Nat := if d.name ≠ name ∨ n < 2 then n else if on then d.on else d.off

def madeOf (ds : List Dec) (d : Dec) : Nat × List Dec := if d.off = d.on then (d.off, ds) else match find ds d with
  | some n => (n, ds)
  | none => (ds.length, ds ++ [d])

def andRl (n m : Nat) : Option Nat := if n = 0 ∨ m = 0 then some 0 else if n = 1 then some m else if m = 1 ∨ n = m then some n else none
def xorRl (n m : Nat) : Option Nat := if n = m then some 0 else if n = 0 then some m else if m = 0 then some n else if n = 1 ∧ m = 1 then some 0 else none

structure GoodM (v : Nat) (ds : List Dec) (op : Bool → Bool → Bool) (n m r : Nat) : Prop where
  hn : n < ds.length
  hm : m < ds.length
  hr : r < ds.length
  hsem : ∀ s, sem ds r s = op (sem ds n s) (sem ds m s)
  hnm : min (nm v ds n) (nm v ds m) ≤ nm v ds r
theorem GoodM.ext {v : Nat} {ds ds' : List Dec} {op : Bool → Bool → Bool} {n m r : Nat} (h : GoodM v ds op n m r) (e : Ext ds ds') (w : WF v ds) : GoodM v ds' op n m r :=
  ⟨Nat.lt_of_lt_of_le h.hn e.len, Nat.lt_of_lt_of_le h.hm e.len, Nat.lt_of_lt_of_le h.hr e.len, fun s => by rw [e.sem w _ _ h.hr, e.sem w _ _ h.hn, e.sem w _ _ h.hm]; exact h.hsem s, by rw [e.nm h.hr, e.nm h.hn, e.nm h.hm]; exact h.hnm⟩
theorem sem_side {v : Nat} {ds : List Dec} (w : WF v ds) {n name : Nat} {on : Bool} {d : Dec} (hd : ds[n]? = some d) (hn : name ≤ nm v ds n) (hv : name < v) : sideOf d n name on < ds.length ∧ name < nm v ds (sideOf d n name on) ∧ ∀ s : Asg, sem ds (sideOf d n name on) s = sem ds n (upd s name on) := by
  have hlt := (List.getElem?_eq_some_iff.1 hd).1
  rw [nm_some hd] at hn
  by_cases h : d.name ≠ name ∨ n < 2
  · have e : sideOf d n name on = n := if_pos h
    rw [e]
    have hlt2 : name < nm v ds n := by
      rw [nm_some hd]
      rcases h with h | h
      · omega
      · have := nm_low w (n := n) (by omega)
        rw [nm_some hd] at this; omega
    exact ⟨hlt, hlt2, fun s => (sem_upd w hlt hlt2 s on).symm⟩
  · have h1 : d.name = name := by omega
    have h2 : 2 ≤ n := by omega
    have f := w.fine n d h2 hd
    have := f.off; have := f.on
    have e : sideOf d n name on = if on then d.on else d.off := if_neg h
    rw [e]
    refine ⟨by split <;> omega, ?_, fun s => ?_⟩
    · rw [← h1]; split
      · exact f.onn
      · exact f.offn
    · rw [sem_step w h2 hd, h1, upd_same]
      cases on
      · simp only [Bool.false_eq_true, if_false]
        exact (sem_upd w (by omega) (by rw [← h1]; exact f.offn) s false).symm
      · simp only [if_true]
        exact (sem_upd w (by omega) (by rw [← h1]; exact f.onn) s true).symm

theorem made_good {v : Nat} {ds : List Dec} (w : WF v ds) {name off on : Nat} (m : Made v ds name off on) : WF v (madeOf ds ⟨name, off, on⟩).2 ∧ Ext ds (madeOf ds ⟨name, off, on⟩).2 ∧ (madeOf ds ⟨name, off, on⟩).1 < (madeOf ds ⟨name, off, on⟩).2.length ∧ (madeOf ds ⟨name, off, on⟩).2.length ≤ ds.length + 1 ∧
    name ≤ nm v (madeOf ds ⟨name, off, on⟩).2 (madeOf ds ⟨name, off, on⟩).1 ∧ ∀ s : Asg, sem (madeOf ds ⟨name, off, on⟩).2 (madeOf ds ⟨name, off, on⟩).1 s = if s name then sem ds on s else sem ds off s := by
  by_cases hne : off = on
  · have e : madeOf ds ⟨name, off, on⟩ = (off, ds) := if_pos hne
    rw [e]
    exact ⟨w, .refl _, m.hoff, by simp, Nat.le_of_lt m.offn, fun s => by rw [hne]; split <;> rfl⟩
  · have e : madeOf ds ⟨name, off, on⟩ = match find ds ⟨name, off, on⟩ with
      | some n => (n, ds)
      | none => (ds.length, ds ++ [⟨name, off, on⟩]) := if_neg hne
    cases hf : find ds ⟨name, off, on⟩ with
    | some n =>
      rw [hf] at e
      obtain ⟨h1, h2, h3⟩ := find_some hf
      rw [e]
      exact ⟨w, .refl _, h2, by simp, by rw [nm_some h3]; exact Nat.le_refl _, fun s => by rw [sem_step w h1 h3]; split <;> rfl⟩
    | none =>
      rw [hf] at e
      have w' := w.push m hne hf
      have ex : Ext ds (ds ++ [⟨name, off, on⟩]) := ⟨_, rfl⟩
      have hg : (ds ++ [(⟨name, off, on⟩ : Dec)])[ds.length]? = some ⟨name, off, on⟩ := by rw [List.getElem?_append_right (Nat.le_refl _)]; simp
      rw [e]
      refine ⟨w', ex, by simp, by simp, by rw [nm_some hg]; exact Nat.le_refl _, fun s => ?_⟩
      show sem (ds ++ [⟨name, off, on⟩]) ds.length s = _
      rw [sem_step w' w.two hg]
      simp only
      rw [← ex.sem w _ _ m.hoff, ← ex.sem w _ _ m.hon]
      split <;> rfl

theorem upd_self (s : Asg) (i : Nat) : upd s i (s i) = s := by funext j; simp only [upd]; split <;> simp_all


structure RuleP (op : Bool → Bool → Bool) (rl : Nat → Nat → Option Nat) : Prop where
  hit : ∀ n m r ds (s : Asg), rl n m = some r → sem ds r s = op (sem ds n s) (sem ds m s)
  which : ∀ n m r, rl n m = some r → r = n ∨ r = m ∨ r ≤ 1
  miss : ∀ n m, rl n m = none → 2 ≤ n ∨ 2 ≤ m
theorem and_ruleP : RuleP (fun a b => a && b) andRl where
  hit := fun n m r ds s h => by
    unfold andRl at h
    split at h
    · rename_i hc
      injection h with h; subst h
      rcases hc with rfl | rfl <;> simp [sem_zero]
    · split at h
      · rename_i h1; subst h1; injection h with h; subst h; simp [sem_one]
      · split at h
        · rename_i h2; injection h with h; subst h
          rcases h2 with rfl | rfl <;> simp [sem_one]
        · cases h
  which := fun n m r h => by
    unfold andRl at h
    split at h
    · injection h with h; omega
    · split at h
      · injection h with h; omega
      · split at h
        · injection h with h; omega
        · cases h
  miss := fun n m h => by
    unfold andRl at h
    split at h
    · cases h
    · split at h
      · cases h
      · split at h
        · cases h
        · omega
theorem xor_ruleP : RuleP (fun a b => a ^^ b) xorRl where
  hit := fun n m r ds s h => by
    unfold xorRl at h
    split at h
    · rename_i hc; subst hc; injection h with h; subst h; simp [sem_zero]
    · split at h
      · rename_i h1; subst h1; injection h with h; subst h; simp [sem_zero]
      · split at h
        · rename_i h2; subst h2; injection h with h; subst h; simp [sem_zero]
        · split at h
          · rename_i h3; obtain ⟨rfl, rfl⟩ := h3; rename_i h4; exact (h4 rfl).elim
          · cases h
  which := fun n m r h => by
    unfold xorRl at h
    split at h
    · injection h with h; omega
    · split at h
      · injection h with h; omega
      · split at h
        · injection h with h; omega
        · split at h
          · injection h with h; omega
          · cases h
  miss := fun n m h => by
    unfold xorRl at h
    split at h
    · cases h
    · split at h
      · cases h
      · split at h
        · cases h
        · split at h
          · cases h
          · omega

abbrev Memo := Nat × Nat → Option Nat
def Memo.put (f : Memo) (q : Nat × Nat) (r : Nat) : Memo := fun p => if p = q then some r else f p
/-- what the closure works out, with so much fuel -/
def workF (rl : Nat → Nat → Option Nat) : Nat → List Dec → Memo → Nat → Nat → Option (Nat × List Dec × Memo)
  | 0, _, _, _, _ => none
  | k + 1, ds, f, n, m => match rl n m with
    | some r => some (r, ds, f)
    | none => match f (n, m) with
      | some r => some (r, ds, f)
      | none => (ds[n]?).bind fun dn => (ds[m]?).bind fun dm =>
          (workF rl k ds f (sideOf dn n (min dn.name dm.name) false) (sideOf dm m (min dn.name dm.name) false)).bind fun p =>
          (workF rl k p.2.1 p.2.2 (sideOf dn n (min dn.name dm.name) true) (sideOf dm m (min dn.name dm.name) true)).bind fun q =>
          some ((madeOf q.2.1 ⟨min dn.name dm.name, p.1, q.1⟩).1, (madeOf q.2.1 ⟨min dn.name dm.name, p.1, q.1⟩).2, q.2.2.put (n, m) (madeOf q.2.1 ⟨min dn.name dm.name, p.1, q.1⟩).1)
theorem workF_rule {rl : Nat → Nat → Option Nat} {k : Nat} {ds : List Dec} {f : Memo} {n m r : Nat} (h : rl n m = some r) : workF rl (k + 1) ds f n m = some (r, ds, f) := by
  unfold workF; rw [h]
theorem workF_hit {rl : Nat → Nat → Option Nat} {k : Nat} {ds : List Dec} {f : Memo} {n m r : Nat} (h : rl n m = none) (hf : f (n, m) = some r) : workF rl (k + 1) ds f n m = some (r, ds, f) := by
  unfold workF; rw [h]; simp only [hf]
theorem workF_miss {rl : Nat → Nat → Option Nat} {k : Nat} {ds : List Dec} {f : Memo} {n m : Nat} {dn dm : Dec} {name : Nat} {r1 r2 : Nat} {ds1 ds2 : List Dec} {f1 f2 : Memo} (h : rl n m = none) (hf : f (n, m) = none) (hdn : ds[n]? = some dn) (hdm : ds[m]? = some dm) (hnm : name = min dn.name dm.name)
    (h1 : workF rl k ds f (sideOf dn n name false) (sideOf dm m name false) = some (r1, ds1, f1)) (h2 : workF rl k ds1 f1 (sideOf dn n name true) (sideOf dm m name true) = some (r2, ds2, f2)) :
    workF rl (k + 1) ds f n m = some ((madeOf ds2 ⟨name, r1, r2⟩).1, (madeOf ds2 ⟨name, r1, r2⟩).2, f2.put (n, m) (madeOf ds2 ⟨name, r1, r2⟩).1) := by
  subst hnm
  unfold workF
  rw [h]
  simp only [hf, hdn, hdm, Option.bind_some, h1, h2]
def DoneP (v : Nat) (ds : List Dec) (op : Bool → Bool → Bool) (f : Memo) : Prop := ∀ n m r, f (n, m) = some r → GoodM v ds op n m r
theorem DoneP.ext {v : Nat} {ds ds' : List Dec} {op : Bool → Bool → Bool} {f : Memo} (h : DoneP v ds op f) (e : Ext ds ds') (w : WF v ds) : DoneP v ds' op f := fun n m r hr => (h n m r hr).ext e w
theorem work_ok {op : Bool → Bool → Bool} {rl : Nat → Nat → Option Nat} (R : RuleP op rl) {v : Nat} : ∀ (k n m : Nat) (ds : List Dec) (f : Memo), n < ds.length → m < ds.length → v ≤ min (nm v ds n) (nm v ds m) + k → WF v ds → DoneP v ds op f →
    ∃ r ds' f', workF rl (k + 1) ds f n m = some (r, ds', f') ∧ WF v ds' ∧ Ext ds ds' ∧ GoodM v ds' op n m r ∧ ds'.length + 1 ≤ ds.length + 2 ^ k ∧ DoneP v ds' op f' := by
  intro k
  induction k with
  | zero =>
    intro n m ds f hn hm hk w done
    cases hrl : rl n m with
    | some r =>
      have h2 := w.two
      have hw := R.which n m r hrl
      refine ⟨r, ds, f, workF_rule hrl, w, .refl _, ⟨hn, hm, by omega, fun s => R.hit n m r ds s hrl, ?_⟩, by simp, done⟩
      rcases hw with rfl | rfl | hw
      · exact Nat.min_le_left _ _
      · exact Nat.min_le_right _ _
      · rw [nm_low w hw]; exact Nat.le_trans (Nat.min_le_left _ _) (nm_le w n)
    | none =>
      exfalso
      rcases R.miss n m hrl with h | h
      · have := (w.fine n ds[n] h (List.getElem?_eq_getElem hn)).name
        have e := nm_some (v := v) (List.getElem?_eq_getElem hn)
        omega
      · have := (w.fine m ds[m] h (List.getElem?_eq_getElem hm)).name
        have e := nm_some (v := v) (List.getElem?_eq_getElem hm)
        omega
  | succ k ih =>
    intro n m ds f hn hm hk w done
    have hpk : 2 ^ (k + 1) = 2 ^ k + 2 ^ k := by rw [Nat.pow_succ]; omega
    have h1k : 1 ≤ 2 ^ k := Nat.one_le_two_pow
    cases hrl : rl n m with
    | some r =>
      have h2 := w.two
      have hw := R.which n m r hrl
      refine ⟨r, ds, f, workF_rule hrl, w, .refl _, ⟨hn, hm, by omega, fun s => R.hit n m r ds s hrl, ?_⟩, by omega, done⟩
      rcases hw with rfl | rfl | hw
      · exact Nat.min_le_left _ _
      · exact Nat.min_le_right _ _
      · rw [nm_low w hw]; exact Nat.le_trans (Nat.min_le_left _ _) (nm_le w n)
    | none =>
      cases hf : f (n, m) with
      | some r => exact ⟨r, ds, f, workF_hit hrl hf, w, .refl _, done n m r hf, by omega, done⟩
      | none =>
        obtain ⟨dn, hdn⟩ : ∃ d, ds[n]? = some d := ⟨_, List.getElem?_eq_getElem hn⟩
        obtain ⟨dm, hdm⟩ : ∃ d, ds[m]? = some d := ⟨_, List.getElem?_eq_getElem hm⟩
        have en : nm v ds n = dn.name := nm_some hdn
        have em : nm v ds m = dm.name := nm_some hdm
        have hname : min dn.name dm.name < v := by
          rcases R.miss n m hrl with h | h
          · have := (w.fine n dn h hdn).name; omega
          · have := (w.fine m dm h hdm).name; omega
        rw [en, em] at hk
        obtain ⟨name, hnm⟩ : ∃ x, x = min dn.name dm.name := ⟨_, rfl⟩
        obtain ⟨ln, lnn, lns⟩ := sem_side w (on := false) hdn (name := name) (by omega) (by omega)
        obtain ⟨lm, lmn, lms⟩ := sem_side w (on := false) hdm (name := name) (by omega) (by omega)
        obtain ⟨r1, ds1, f1, e1, w1, x1, good1, len1, done1⟩ := ih (sideOf dn n name false) (sideOf dm m name false) ds f ln lm (by omega) w done
        have hdn1 : ds1[n]? = some dn := by rw [x1.get hn]; exact hdn
        have hdm1 : ds1[m]? = some dm := by rw [x1.get hm]; exact hdm
        obtain ⟨pn, pnn, pns⟩ := sem_side w1 (on := true) hdn1 (name := name) (by rw [nm_some hdn1]; omega) (by omega)
        obtain ⟨pm, pmn, pms⟩ := sem_side w1 (on := true) hdm1 (name := name) (by rw [nm_some hdm1]; omega) (by omega)
        obtain ⟨r2, ds2, f2, e2, w2, x2, good2, len2, done2⟩ := ih (sideOf dn n name true) (sideOf dm m name true) ds1 f1 pn pm (by omega) w1 done1
        have hl1 := x1.len
        have hl2 := x2.len
        have m2 : Made v ds2 name r1 r2 := ⟨by have := good1.hr; omega, good2.hr, by omega, by rw [x2.nm good1.hr]; have := good1.hnm; rw [x1.nm ln, x1.nm lm] at this; omega, by have := good2.hnm; rw [x2.nm pn, x2.nm pm] at this; omega⟩
        obtain ⟨w3, x3, lt3, len3, nm3, sem3⟩ := made_good w2 m2
        have xx : Ext ds (madeOf ds2 ⟨name, r1, r2⟩).2 := x1.trans (x2.trans x3)
        have good : GoodM v (madeOf ds2 ⟨name, r1, r2⟩).2 op n m (madeOf ds2 ⟨name, r1, r2⟩).1 := by
          refine ⟨Nat.lt_of_lt_of_le hn xx.len, Nat.lt_of_lt_of_le hm xx.len, lt3, fun s => ?_, by rw [xx.nm hn, xx.nm hm, en, em, ← hnm]; exact nm3⟩
          rw [sem3, xx.sem w _ _ hn, xx.sem w _ _ hm]
          cases hs : s name with
          | true =>
            have us : upd s name true = s := by rw [← hs]; exact upd_self s name
            simp only [if_true]
            rw [good2.hsem, x2.sem w1 _ _ pn, x2.sem w1 _ _ pm, pns, pms, us, x1.sem w _ _ hn, x1.sem w _ _ hm]
          | false =>
            have us : upd s name false = s := by rw [← hs]; exact upd_self s name
            simp only [Bool.false_eq_true, if_false]
            rw [x2.sem w1 _ _ good1.hr, good1.hsem, x1.sem w _ _ ln, x1.sem w _ _ lm, lns, lms, us]
        refine ⟨_, _, _, workF_miss hrl hf hdn hdm hnm e1 e2, w3, xx, good, by omega, fun n' m' r hr => ?_⟩
        unfold Memo.put at hr
        by_cases he : (n', m') = (n, m)
        · rw [if_pos he] at hr
          injection he with he1 he2
          subst he1; subst he2
          injection hr with hr; subst hr
          exact good
        · rw [if_neg he] at hr
          exact (done2 n' m' r hr).ext x3 w2
end Go.Vc.Bdd
namespace Go.Sh
open Go.Vc.Bdd
structure GArena where
  v : Nat
  ds : List Dec
def GArena.fit (A : GArena) (n : Int) : Prop := 0 ≤ n ∧ n < (A.ds.length : Int)
instance (A : GArena) (n : Int) : Decidable (A.fit n) := inferInstanceAs (Decidable (_ ∧ _))
def bothG (rl : Nat → Nat → Option Nat) (A : GArena) (n m : Nat) : Option (Nat × GArena) := (workF rl (A.v + 1) A.ds (fun _ => none) n m).map fun p => (p.1, ⟨A.v, p.2.1⟩)
def bdd_Vars (A : GArena) : Option (Int × GArena) := some ((A.v : Int), A)
def bdd_Holds (A : GArena) (n set : Int) : Option ((Bool × Int) × GArena) := chk (A.v ≤ 8 ∧ A.ds.length ≤ 800000 ∧ A.fit n ∧ 0 ≤ set ∧ set < ((2 ^ A.v : Nat) : Int)) (some ((sem A.ds n.toNat (fun i => set.toNat.testBit i), 0), A))
def bdd_And (A : GArena) (n m : Int) : Option ((Int × Int) × GArena) := chk (A.v ≤ 8 ∧ A.ds.length ≤ 800000 ∧ A.fit n ∧ A.fit m) ((bothG andRl A n.toNat m.toNat).bind fun p => some (((p.1 : Int), 0), p.2))
def bdd_Or (A : GArena) (n m : Int) : Option ((Int × Int) × GArena) := chk (A.v ≤ 8 ∧ A.ds.length ≤ 800000 ∧ A.fit n ∧ A.fit m) ((bothG xorRl A n.toNat m.toNat).bind fun p => (bothG andRl p.2 n.toNat m.toNat).bind fun q => (bothG xorRl q.2 p.1 q.1).bind fun r => some (((r.1 : Int), 0), r.2))
def bdd_Not (A : GArena) (n : Int) : Option ((Int × Int) × GArena) := chk (A.v ≤ 8 ∧ A.ds.length ≤ 800000 ∧ A.fit n) ((bothG xorRl A n.toNat 1).bind fun p => some (((p.1 : Int), 0), p.2))
def bdd_Var (A : GArena) (i : Int) : Option ((Int × Int) × GArena) := chk (A.v ≤ 8 ∧ A.ds.length ≤ 800000 ∧ 0 ≤ i ∧ i < (A.v : Int)) (some ((((madeOf A.ds ⟨i.toNat, 0, 1⟩).1 : Int), 0), ⟨A.v, (madeOf A.ds ⟨i.toNat, 0, 1⟩).2⟩))
def newG (v : Nat) : GArena := ⟨v, [⟨v, 0, 0⟩, ⟨v, 0, 0⟩]⟩
end Go.Sh
