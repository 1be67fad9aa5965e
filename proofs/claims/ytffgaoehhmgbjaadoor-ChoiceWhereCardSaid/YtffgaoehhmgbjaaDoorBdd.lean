/-
  The plain law of decisions: each decision once, and what is one by thought is one. No program in sight.
-/
import Derived.Test.YtffgaoehhmgbjaaDoorVs
set_option linter.unusedVariables false
set_option linter.unusedSimpArgs false
namespace Go.Vc.Bdd

structure Dec where
  name : Nat
  off : Nat
  on : Nat
  deriving DecidableEq

abbrev Asg := Nat → Bool
def semF (ds : List Dec) : Nat → Nat → Asg → Bool
  | 0, n, _ => n == 1
  | k + 1, n, s => if n ≤ 1 then n == 1 else match ds[n]? with
    | some d => semF ds k (if s d.name then d.on else d.off) s
    | none => false
def sem (ds : List Dec) (n : Nat) (s : Asg) : Bool := semF ds n n s
def nm (v : Nat) (ds : List Dec) (n : Nat) : Nat := match ds[n]? with
  | some d => d.name
  | none => v

structure Fine (v : Nat) (ds : List Dec) (n : Nat) (d : Dec) : Prop where
  ne : d.off ≠ d.on
  off : d.off < n
  on : d.on < n
  name : d.name < v
  offn : d.name < nm v ds d.off
  onn : d.name < nm v ds d.on
structure WF (v : Nat) (ds : List Dec) : Prop where
  zero : ds[0]? = some ⟨v, 0, 0⟩
  one : ds[1]? = some ⟨v, 0, 0⟩
  fine : ∀ n d, 2 ≤ n → ds[n]? = some d → Fine v ds n d
  once : ∀ i j d, 2 ≤ i → 2 ≤ j → ds[i]? = some d → ds[j]? = some d → i = j

section
variable {v : Nat} {ds : List Dec}
theorem WF.two (h : WF v ds) : 2 ≤ ds.length := by have := (List.getElem?_eq_some_iff.1 h.one).1; omega
theorem semF_more (h : WF v ds) : ∀ (k n : Nat) (s : Asg), n ≤ k → semF ds k n s = semF ds n n s := by
  intro k
  induction k with
  | zero => intro n s hn; exact (show n = 0 by omega) ▸ rfl
  | succ k ih =>
    intro n s hn
    cases n with
    | zero => simp [semF]
    | succ n =>
      unfold semF
      by_cases h1 : n + 1 ≤ 1
      · simp only [h1, if_true]
      · simp only [h1, if_false]
        cases hd : ds[n + 1]? with
        | none => rfl
        | some d =>
          have f := h.fine _ d (by omega) hd
          simp only
          have hc : (if s d.name = true then d.on else d.off) ≤ n := by
            have := f.off; have := f.on
            split <;> omega
          rw [ih _ s (by omega)]
          rcases Nat.lt_or_ge (if s d.name = true then d.on else d.off) (n + 1) with q | q
          · exact (show semF ds _ _ s = semF ds n _ s from by
              have := ih (if s d.name = true then d.on else d.off) s (by omega)
              by_cases hk : k = n
              · subst hk; exact this.symm
              · -- n ≤ k
                exact (semF_n h n _ s hc).symm)
          · omega
where
  semF_n (h : WF v ds) (n m : Nat) (s : Asg) (hm : m ≤ n) : semF ds n m s = semF ds m m s := by
    induction n using Nat.strongRecOn generalizing m with
    | _ n ih =>
      cases n with
      | zero => exact (show m = 0 by omega) ▸ rfl
      | succ n =>
        cases m with
        | zero => simp [semF]
        | succ m =>
          unfold semF
          by_cases h1 : m + 1 ≤ 1
          · simp only [h1, if_true]
          · simp only [h1, if_false]
            cases hd : ds[m + 1]? with
            | none => rfl
            | some d =>
              have f := h.fine _ d (by omega) hd
              simp only
              have hc : (if s d.name = true then d.on else d.off) ≤ m := by
                have := f.off; have := f.on
                split <;> omega
              rw [ih n (by omega) _ (by omega), ih m (by omega) _ hc]

theorem sem_zero (s : Asg) : sem ds 0 s = false := rfl
theorem sem_one (s : Asg) : sem ds 1 s = true := rfl
theorem sem_step (h : WF v ds) {n : Nat} {d : Dec} (hn : 2 ≤ n) (hd : ds[n]? = some d) (s : Asg) : sem ds n s = sem ds (if s d.name then d.on else d.off) s := by
  have f := h.fine _ d hn hd
  obtain ⟨m, rfl⟩ : ∃ m, n = m + 1 := ⟨n - 1, by omega⟩
  unfold sem
  rw [semF]
  simp only [show ¬ (m + 1 ≤ 1) by omega, if_false, hd]
  exact semF_more h _ _ s (by have := f.off; have := f.on; split <;> omega)

theorem nm_le (h : WF v ds) (n : Nat) : nm v ds n ≤ v := by
  unfold nm
  cases hd : ds[n]? with
  | none => exact Nat.le_refl _
  | some d =>
    simp only
    rcases Nat.lt_or_ge n 2 with hn | hn
    · rcases (show n = 0 ∨ n = 1 by omega) with rfl | rfl
      · rw [h.zero] at hd; injection hd with hd; subst hd; exact Nat.le_refl _
      · rw [h.one] at hd; injection hd with hd; subst hd; exact Nat.le_refl _
    · exact Nat.le_of_lt (h.fine n d hn hd).name
theorem nm_low (h : WF v ds) {n : Nat} (hn : n ≤ 1) : nm v ds n = v := by
  unfold nm
  rcases (show n = 0 ∨ n = 1 by omega) with rfl | rfl
  · rw [h.zero]
  · rw [h.one]
theorem nm_some {n : Nat} {d : Dec} (hd : ds[n]? = some d) : nm v ds n = d.name := by unfold nm; rw [hd]
theorem two_of_nm (h : WF v ds) {n : Nat} (hn : nm v ds n < v) : 2 ≤ n := by
  rcases Nat.lt_or_ge n 2 with h1 | h1
  · have := nm_low h (n := n) (by omega); omega
  · exact h1

theorem sem_dep (h : WF v ds) : ∀ (n : Nat) (s t : Asg), (∀ i, nm v ds n ≤ i → i < v → s i = t i) → n < ds.length → sem ds n s = sem ds n t := by
  intro n
  induction n using Nat.strongRecOn with
  | _ n ih =>
    intro s t hst hlt
    rcases Nat.lt_or_ge n 2 with hn | hn
    · rcases (show n = 0 ∨ n = 1 by omega) with rfl | rfl <;> rfl
    · obtain ⟨d, hd⟩ : ∃ d, ds[n]? = some d := ⟨_, List.getElem?_eq_getElem hlt⟩
      have f := h.fine n d hn hd
      rw [sem_step h hn hd, sem_step h hn hd]
      rw [nm_some hd] at hst
      rw [hst d.name (Nat.le_refl _) f.name]
      have := f.off; have := f.on; have := f.offn; have := f.onn
      split
      · exact ih _ f.on s t (fun i h1 h2 => hst i (by omega) h2) (by omega)
      · exact ih _ f.off s t (fun i h1 h2 => hst i (by omega) h2) (by omega)

def upd (s : Asg) (i : Nat) (b : Bool) : Asg := fun j => if j = i then b else s j
theorem upd_same (s : Asg) (i : Nat) (b : Bool) : upd s i b i = b := by simp [upd]
theorem sem_upd (h : WF v ds) {n i : Nat} (hn : n < ds.length) (hi : i < nm v ds n) (s : Asg) (b : Bool) : sem ds n (upd s i b) = sem ds n s :=
  sem_dep h n _ _ (fun j hj _ => by simp [upd, show j ≠ i by omega]) hn

/-- what is the same by thought is one -/
theorem canon (h : WF v ds) : ∀ (k n m : Nat), n + m ≤ k → n < ds.length → m < ds.length → (∀ s, sem ds n s = sem ds m s) → n = m := by
  intro k
  induction k with
  | zero => intro n m hk; omega
  | succ k ih =>
    intro n m hk hn hm hs
    -- the first hangs on a name that comes ahead of those of the second
    have ahead : ∀ n m, n + m ≤ k + 1 → n < ds.length → m < ds.length → (∀ s, sem ds n s = sem ds m s) → nm v ds n < nm v ds m → False := by
      intro n m hk hn hm hs hlt
      have h2 := two_of_nm h (n := n) (by have := nm_le h m; omega)
      obtain ⟨d, hd⟩ : ∃ d, ds[n]? = some d := ⟨_, List.getElem?_eq_getElem hn⟩
      have f := h.fine n d h2 hd
      rw [nm_some hd] at hlt
      have := f.off; have := f.on
      have e1 : d.off = m := ih _ _ (by omega) (by omega) hm fun s => by
        have := hs (upd s d.name false)
        rw [sem_step h h2 hd, upd_same, sem_upd h hm hlt] at this
        simp only [Bool.false_eq_true, if_false] at this
        rwa [sem_upd h (by omega) f.offn] at this
      have e2 : d.on = m := ih _ _ (by omega) (by omega) hm fun s => by
        have := hs (upd s d.name true)
        rw [sem_step h h2 hd, upd_same, sem_upd h hm hlt] at this
        simp only [if_true] at this
        rwa [sem_upd h (by omega) f.onn] at this
      exact f.ne (e1.trans e2.symm)
    rcases Nat.lt_trichotomy (nm v ds n) (nm v ds m) with hlt | heq | hgt
    · exact (ahead n m hk hn hm hs hlt).elim
    · rcases Nat.lt_or_ge (nm v ds n) v with hv | hv
      · have h2 := two_of_nm h hv
        have h3 := two_of_nm h (n := m) (by omega)
        obtain ⟨d, hd⟩ : ∃ d, ds[n]? = some d := ⟨_, List.getElem?_eq_getElem hn⟩
        obtain ⟨e, he⟩ : ∃ e, ds[m]? = some e := ⟨_, List.getElem?_eq_getElem hm⟩
        have f := h.fine n d h2 hd
        have g := h.fine m e h3 he
        rw [nm_some hd, nm_some he] at heq
        have := f.off; have := f.on; have := g.off; have := g.on
        have e1 : d.off = e.off := ih _ _ (by omega) (by omega) (by omega) fun s => by
          have := hs (upd s d.name false)
          rw [sem_step h h2 hd, sem_step h h3 he, ← heq, upd_same] at this
          simp only [Bool.false_eq_true, if_false] at this
          rwa [sem_upd h (by omega) f.offn, sem_upd h (by omega) (by rw [heq]; exact g.offn)] at this
        have e2 : d.on = e.on := ih _ _ (by omega) (by omega) (by omega) fun s => by
          have := hs (upd s d.name true)
          rw [sem_step h h2 hd, sem_step h h3 he, ← heq, upd_same] at this
          simp only [if_true] at this
          rwa [sem_upd h (by omega) f.onn, sem_upd h (by omega) (by rw [heq]; exact g.onn)] at this
        have : d = e := by cases d; cases e; simp_all
        subst this
        exact h.once n m d h2 h3 hd he
      · -- both hang on none
        have low : ∀ n, n < ds.length → v ≤ nm v ds n → n ≤ 1 := fun n hn hv => by
          rcases Nat.lt_or_ge n 2 with q | q
          · omega
          · obtain ⟨d, hd⟩ : ∃ d, ds[n]? = some d := ⟨_, List.getElem?_eq_getElem hn⟩
            have f := h.fine n d q hd
            rw [nm_some hd] at hv
            have := f.name; omega
        have a := low n hn hv
        have b := low m hm (by omega)
        have := hs fun _ => false
        rcases (show n = 0 ∨ n = 1 by omega) with rfl | rfl <;> rcases (show m = 0 ∨ m = 1 by omega) with rfl | rfl <;> first | rfl | (simp [sem_zero, sem_one] at this)
    · exact (ahead m n (by omega) hm hn (fun s => (hs s).symm) hgt).elim
theorem one_of_same (h : WF v ds) {n m : Nat} (hn : n < ds.length) (hm : m < ds.length) (hs : ∀ s, sem ds n s = sem ds m s) : n = m := canon h _ n m (Nat.le_refl _) hn hm hs
end

/-! ### what is made later changes nothing -/
def Ext (ds ds' : List Dec) : Prop := ∃ r, ds' = ds ++ r
theorem Ext.refl (ds : List Dec) : Ext ds ds := ⟨[], by simp⟩
theorem Ext.trans {a b c : List Dec} (h : Ext a b) (k : Ext b c) : Ext a c := by obtain ⟨r, rfl⟩ := h; obtain ⟨s, rfl⟩ := k; exact ⟨r ++ s, by simp⟩
theorem Ext.get {ds ds' : List Dec} (h : Ext ds ds') {n : Nat} (hn : n < ds.length) : ds'[n]? = ds[n]? := by obtain ⟨r, rfl⟩ := h; exact List.getElem?_append_left hn
theorem Ext.len {ds ds' : List Dec} (h : Ext ds ds') : ds.length ≤ ds'.length := by obtain ⟨r, rfl⟩ := h; simp
theorem Ext.nm {v : Nat} {ds ds' : List Dec} (h : Ext ds ds') {n : Nat} (hn : n < ds.length) : Bdd.nm v ds' n = Bdd.nm v ds n := by unfold Bdd.nm; rw [h.get hn]
theorem Ext.sem {v : Nat} {ds ds' : List Dec} (h : Ext ds ds') (w : WF v ds) : ∀ (n : Nat) (s : Asg), n < ds.length → Bdd.sem ds' n s = Bdd.sem ds n s := by
  have key : ∀ (k n : Nat) (s : Asg), n < ds.length → semF ds' k n s = semF ds k n s := by
    intro k
    induction k with
    | zero => intro n s _; rfl
    | succ k ih =>
      intro n s hn
      unfold semF
      rw [h.get hn]
      split
      · rfl
      · rename_i h1
        cases hd : ds[n]? with
        | none => rfl
        | some d =>
          have f := w.fine n d (by omega) hd
          have := f.off; have := f.on
          exact ih _ s (by split <;> omega)
  exact fun n s hn => key n n s hn

/-- a decision that is told -/
structure Made (v : Nat) (ds : List Dec) (name off on : Nat) : Prop where
  hoff : off < ds.length
  hon : on < ds.length
  hname : name < v
  offn : name < nm v ds off
  onn : name < nm v ds on

/-- where it is kept -/
def find (ds : List Dec) (d : Dec) : Option Nat := (List.range ds.length).find? fun n => decide (2 ≤ n) && ds[n]? == some d
theorem find_some {ds : List Dec} {d : Dec} {n : Nat} (h : find ds d = some n) : 2 ≤ n ∧ n < ds.length ∧ ds[n]? = some d := by
  have h1 := List.find?_some h
  have h2 := List.mem_of_find?_eq_some h
  simp only [Bool.and_eq_true, decide_eq_true_eq, beq_iff_eq] at h1
  exact ⟨h1.1, List.mem_range.1 h2, h1.2⟩
theorem find_none {ds : List Dec} {d : Dec} (h : find ds d = none) : ∀ n, 2 ≤ n → ds[n]? ≠ some d := by
  intro n hn hd
  have := List.find?_eq_none.1 h n (List.mem_range.2 (List.getElem?_eq_some_iff.1 hd).1)
  simp [hn, hd] at this
theorem find_is {v : Nat} {ds : List Dec} (w : WF v ds) {d : Dec} {n : Nat} (hn : 2 ≤ n) (hd : ds[n]? = some d) : find ds d = some n := by
  cases h : find ds d with
  | none => exact (find_none h n hn hd).elim
  | some m => obtain ⟨h1, h2, h3⟩ := find_some h; rw [w.once m n d h1 hn h3 hd]

theorem WF.push {v : Nat} {ds : List Dec} (w : WF v ds) {name off on : Nat} (m : Made v ds name off on) (hne : off ≠ on) (hf : find ds ⟨name, off, on⟩ = none) : WF v (ds ++ [⟨name, off, on⟩]) := by
  have e : Ext ds (ds ++ [⟨name, off, on⟩]) := ⟨_, rfl⟩
  have h2 := w.two
  refine ⟨by rw [e.get (by omega)]; exact w.zero, by rw [e.get (by omega)]; exact w.one, fun n d hn hd => ?_, fun i j d hi hj h1 h2 => ?_⟩
  · rcases Nat.lt_or_ge n ds.length with q | q
    · rw [e.get q] at hd
      have f := w.fine n d hn hd
      have := f.off; have := f.on
      exact ⟨f.ne, f.off, f.on, f.name, by rw [e.nm (by omega)]; exact f.offn, by rw [e.nm (by omega)]; exact f.onn⟩
    · have hlt := (List.getElem?_eq_some_iff.1 hd).1
      simp at hlt
      obtain rfl : n = ds.length := by omega
      rw [List.getElem?_append_right (Nat.le_refl _)] at hd
      simp at hd; subst hd
      exact ⟨hne, m.hoff, m.hon, m.hname, (by show name < nm v _ off; rw [e.nm m.hoff]; exact m.offn), (by show name < nm v _ on; rw [e.nm m.hon]; exact m.onn)⟩
  · have key : ∀ i, 2 ≤ i → (ds ++ [⟨name, off, on⟩])[i]? = some d → (i < ds.length ∧ ds[i]? = some d) ∨ (i = ds.length ∧ d = ⟨name, off, on⟩) := fun i hi h => by
      rcases Nat.lt_or_ge i ds.length with q | q
      · rw [e.get q] at h; exact .inl ⟨q, h⟩
      · have hlt := (List.getElem?_eq_some_iff.1 h).1
        simp at hlt
        obtain rfl : i = ds.length := by omega
        rw [List.getElem?_append_right (Nat.le_refl _)] at h
        simp at h; exact .inr ⟨rfl, h.symm⟩
    rcases key i hi h1 with ⟨a, b⟩ | ⟨a, b⟩ <;> rcases key j hj h2 with ⟨c, d'⟩ | ⟨c, d'⟩
    · exact w.once i j d hi hj b d'
    · subst d'; exact (find_none hf i hi b).elim
    · subst b; exact (find_none hf j hj d').elim
    · omega
theorem find_push {v : Nat} {ds : List Dec} (w : WF v ds) {name off on : Nat} (m : Made v ds name off on) (hne : off ≠ on) (hf : find ds ⟨name, off, on⟩ = none) (d : Dec) : find (ds ++ [⟨name, off, on⟩]) d = if d = ⟨name, off, on⟩ then some ds.length else find ds d := by
  have w' := w.push m hne hf
  have h2 := w.two
  have e : Ext ds (ds ++ [⟨name, off, on⟩]) := ⟨_, rfl⟩
  split
  · rename_i h; subst h
    exact find_is w' h2 (by rw [List.getElem?_append_right (Nat.le_refl _)]; simp)
  · rename_i h
    cases hd : find ds d with
    | some n =>
      obtain ⟨h1, h3, h4⟩ := find_some hd
      exact find_is w' h1 (by rw [e.get h3]; exact h4)
    | none =>
      cases hd' : find (ds ++ [⟨name, off, on⟩]) d with
      | none => rfl
      | some n =>
        obtain ⟨h1, h3, h4⟩ := find_some hd'
        rcases Nat.lt_or_ge n ds.length with q | q
        · rw [e.get q] at h4; exact (find_none hd n h1 h4).elim
        · simp at h3
          obtain rfl : n = ds.length := by omega
          rw [List.getElem?_append_right (Nat.le_refl _)] at h4
          simp at h4; exact (h h4.symm).elim
end Go.Vc.Bdd
