/-
  What comes of files by edits: the code's and the document's. No program in sight.
-/
import Derived.Test.YtdflfbolaicliaaK4
set_option linter.unusedVariables false
set_option linter.unusedSimpArgs false
namespace Go.Sh
open Go
/-- c stands ahead of d, and something between -/
def G (c d : GEdit) : Prop := c.from_ ≤ c.to ∧ d.from_ ≤ d.to ∧ (c.file_ < d.file_ ∨ c.file_ = d.file_ ∧ c.to < d.from_)
theorem G.ahead {c d : GEdit} (h : G c d) : aheadE c d := by unfold G at h; unfold aheadE; omega
theorem G.t {c d : GEdit} (h : G c d) : T c d := by unfold G at h; unfold T; omega
structure Good (fs : List GFile) (m : List GEdit) : Prop where
  right : ∀ x ∈ m, RightE fs x
  gap : m.Pairwise G
  acts : ∀ x ∈ m, nidle fs x = true
theorem joinA_low : ∀ (r : List GEdit) (d : GEdit), (d :: r).Pairwise T → d.from_ ≤ d.to → ∀ y ∈ joinA d r, (d.file_ < y.file_ ∨ d.file_ = y.file_ ∧ d.from_ ≤ y.from_) ∧ y.from_ ≤ y.to
  | [], d, _, h, y, hy => by
    rw [joinA] at hy; rw [List.mem_singleton.1 hy]; exact ⟨.inr ⟨rfl, Int.le_refl _⟩, h⟩
  | e :: r, d, hp, h, y, hy => by
    rw [joinA] at hy
    have hde := (List.pairwise_cons.1 hp).1 e (List.mem_cons_self ..)
    have hp2 := (List.pairwise_cons.1 hp).2
    have hep := List.pairwise_cons.1 hp2
    by_cases ht : touch d e
    · rw [if_pos ht] at hy
      have hm : (merge d e :: r).Pairwise T := List.pairwise_cons.2 ⟨fun x hx => by
        have h1 := hep.1 x hx
        unfold touch at ht; unfold T merge at *; dsimp only; omega, hep.2⟩
      have h2 := joinA_low r (merge d e) hm (by unfold touch at ht; unfold T at hde; show d.from_ ≤ e.to; omega) y hy
      exact h2
    · rw [if_neg ht] at hy
      rcases List.mem_cons.1 hy with e1 | hy
      · rw [e1]; exact ⟨.inr ⟨rfl, Int.le_refl _⟩, h⟩
      · have h2 := joinA_low r e hp2 (by unfold T at hde; omega) y hy
        refine ⟨?_, h2.2⟩
        unfold T at hde; omega
theorem joinA_G : ∀ (r : List GEdit) (c : GEdit), (c :: r).Pairwise T → c.from_ ≤ c.to → (joinA c r).Pairwise G
  | [], c, _, _ => by rw [joinA]; exact List.pairwise_singleton _ _
  | d :: r, c, hp, h => by
    rw [joinA]
    have hcd := (List.pairwise_cons.1 hp).1 d (List.mem_cons_self ..)
    have hp2 := (List.pairwise_cons.1 hp).2
    have hdp := List.pairwise_cons.1 hp2
    by_cases ht : touch c d
    · rw [if_pos ht]
      refine joinA_G r (merge c d) (List.pairwise_cons.2 ⟨fun x hx => ?_, hdp.2⟩) ?_
      · have h1 := hdp.1 x hx
        unfold touch at ht; unfold T merge at *; dsimp only; omega
      · unfold touch at ht; unfold T at hcd; show c.from_ ≤ d.to; omega
    · rw [if_neg ht]
      refine List.pairwise_cons.2 ⟨fun y hy => ?_, joinA_G r d hp2 (by unfold T at hcd; omega)⟩
      have h2 := joinA_low r d hp2 (by unfold T at hcd; omega) y hy
      unfold touch at ht; unfold T at hcd; unfold G; omega
theorem joinL_G {l : List GEdit} (hp : l.Pairwise T) (h : ∀ x ∈ l, x.from_ ≤ x.to) : (joinL l).Pairwise G := by
  cases l with
  | nil => exact .nil
  | cons c r => exact joinA_G r c hp (h c (List.mem_cons_self ..))
theorem normS_good {fs : List GFile} {l : List GEdit} (h : (normS fs l).2 = 0) : Good fs (normS fs l).1 := by
  unfold normS at h ⊢
  by_cases h1 : ∀ x ∈ l, RightE fs x
  · rw [if_pos h1] at h ⊢
    by_cases h2 : (sortE l).Pairwise T
    · rw [if_pos h2] at h ⊢
      have hr : ∀ x ∈ (sortE l).filter (nidle fs), RightE fs x := fun x hx => sortE_right h1 x (List.mem_filter.1 hx).1
      exact ⟨fun x hx => joinL_right hr x (List.mem_filter.1 hx).1, (joinL_G (h2.filter _) fun x hx => (hr x hx).2.2.2.1).filter _, fun x hx => (List.mem_filter.1 hx).2⟩
    · rw [if_neg h2] at h; cases h
  · rw [if_neg h1] at h; cases h
theorem normS_bad {fs : List GFile} {l : List GEdit} (h : (normS fs l).2 ≠ 0) : (normS fs l).1 = [] := by
  unfold normS at h ⊢
  by_cases h1 : ∀ x ∈ l, RightE fs x
  · rw [if_pos h1] at h ⊢
    by_cases h2 : (sortE l).Pairwise T
    · rw [if_pos h2] at h; exact (h rfl).elim
    · rw [if_neg h2]
  · rw [if_neg h1]
theorem noT_gap {m : List GEdit} (h : m.Pairwise G) : noT m := noT_of fun i hi ht => by
  have := List.pairwise_iff_getElem.1 h i (i + 1) (by omega) hi (by omega)
  unfold G at this; unfold touch at ht; omega
theorem sortE_self {m : List GEdit} (h : m.Pairwise aheadE) : sortE m = m := sorted_unique h (sortE_spec m).2 (sortE_spec m).1
theorem normS_self {fs : List GFile} {m : List GEdit} (h : Good fs m) : normS fs m = (m, 0) := by
  unfold normS
  have hs := sortE_self (h.gap.imp G.ahead)
  have hf : m.filter (nidle fs) = m := List.filter_eq_self.2 h.acts
  rw [if_pos h.right, hs, if_pos (h.gap.imp G.t), hf, joinL_none (noT_gap h.gap), hf]
theorem normS_len (fs : List GFile) (l : List GEdit) : (normS fs l).1.length ≤ l.length := by
  unfold normS
  split
  · split
    · refine Nat.le_trans (List.length_filter_le _ _) (Nat.le_trans (joinL_len _) (Nat.le_trans (List.length_filter_le _ _) ?_))
      rw [sortE_len]; exact Nat.le_refl _
    · exact Nat.zero_le _
  · exact Nat.zero_le _
theorem normS_sum (fs : List GFile) (l : List GEdit) : sumT (normS fs l).1 ≤ sumT l := by
  unfold normS
  split
  · split
    · refine Nat.le_trans (sumT_filter _ _) ?_
      rw [joinL_sum]
      refine Nat.le_trans (sumT_filter _ _) ?_
      rw [sumT_perm (sortE_spec l).1]; exact Nat.le_refl _
    · exact Nat.zero_le _
  · exact Nat.zero_le _
/-! ### one file -/
def onF (i : Int) (m : List GEdit) : List GEdit := m.filter fun c => decide (c.file_ = i)
theorem onF_pos {i : Int} {c : GEdit} {m : List GEdit} (h : c.file_ = i) : onF i (c :: m) = c :: onF i m := by unfold onF; rw [List.filter_cons, if_pos (dT h)]
theorem onF_neg {i : Int} {c : GEdit} {m : List GEdit} (h : ¬ c.file_ = i) : onF i (c :: m) = onF i m := by unfold onF; rw [List.filter_cons, if_neg (by rw [dF h]; simp)]
def spl (s : List UInt8) : Int → List GEdit → List UInt8
  | a, [] => s.drop a.toNat
  | a, c :: r => cut s a c.from_ ++ c.text ++ spl s c.to r
def seqd (s : List UInt8) : Int → List GEdit → Prop
  | a, [] => 0 ≤ a ∧ a ≤ (s.length : Int)
  | a, c :: r => 0 ≤ a ∧ a ≤ c.from_ ∧ c.from_ ≤ c.to ∧ c.to ≤ (s.length : Int) ∧ seqd s c.to r
theorem good_seqd {fs : List GFile} (i : Int) : ∀ (m : List GEdit) (a : Int), 0 ≤ a → a ≤ ((txt fs i).length : Int) → (∀ c ∈ m, c.file_ = i → a ≤ c.from_) → (∀ c ∈ m, RightE fs c) → m.Pairwise G → seqd (txt fs i) a (onF i m)
  | [], a, h0, h1, _, _, _ => ⟨h0, h1⟩
  | c :: r, a, h0, h1, h2, h3, h4 => by
    have hp := List.pairwise_cons.1 h4
    have hr := h3 c (List.mem_cons_self ..)
    by_cases hc : c.file_ = i
    · rw [onF_pos hc]
      have h5 := hr.2.2.2.2
      rw [hc] at h5
      refine ⟨h0, h2 c (List.mem_cons_self ..) hc, hr.2.2.2.1, h5, good_seqd i r c.to ?_ h5 (fun d hd he => ?_) (fun d hd => h3 d (List.mem_cons_of_mem _ hd)) hp.2⟩
      · have := hr.2.2.1; have := hr.2.2.2.1; omega
      · have := hp.1 d hd; unfold G at this; omega
    · rw [onF_neg hc]
      exact good_seqd i r a h0 h1 (fun d hd => h2 d (List.mem_cons_of_mem _ hd)) (fun d hd => h3 d (List.mem_cons_of_mem _ hd)) hp.2
theorem Good.seqd {fs : List GFile} {m : List GEdit} (h : Good fs m) (i : Int) : seqd (txt fs i) 0 (onF i m) :=
  good_seqd i m 0 (Int.le_refl _) (by omega) (fun c hc _ => (h.right c hc).2.2.1) h.right h.gap
def oneF (m : List GEdit) (i : Int) (f : GFile) : GFile := ⟨f.path, spl f.text 0 (onF i m)⟩
def applyS (fs : List GFile) (m : List GEdit) : List GFile := fs.mapIdx fun i f => oneF m (i : Int) f
theorem applyS_len (fs : List GFile) (m : List GEdit) : (applyS fs m).length = fs.length := List.length_mapIdx
theorem applyS_at (fs : List GFile) (m : List GEdit) (i : Nat) : (applyS fs m)[i]? = fs[i]?.map (oneF m i) := by unfold applyS; rw [List.getElem?_mapIdx]
theorem txt_at {fs : List GFile} {i : Nat} {f : GFile} (h : fs[i]? = some f) : txt fs (i : Int) = f.text := by unfold txt; rw [Int.toNat_natCast, h]; rfl
theorem txt_apply {fs : List GFile} {m : List GEdit} {i : Int} (h0 : 0 ≤ i) (h : i < (fs.length : Int)) : txt (applyS fs m) i = spl (txt fs i) 0 (onF i m) := by
  obtain ⟨k, rfl⟩ := Int.eq_ofNat_of_zero_le h0
  have hk : k < fs.length := by omega
  show txt (applyS fs m) ((k : Nat) : Int) = spl (txt fs ((k : Nat) : Int)) 0 (onF ((k : Nat) : Int) m)
  rw [txt_at (fs := applyS fs m) (f := oneF m k fs[k]) (by rw [applyS_at, List.getElem?_eq_getElem hk]; rfl), txt_at (List.getElem?_eq_getElem hk)]; rfl
theorem cut_len (s : List UInt8) (a b : Int) (h0 : 0 ≤ a) (h1 : a ≤ b) (h2 : b ≤ (s.length : Int)) : (cut s a b).length = (b - a).toNat := by
  unfold cut; rw [List.length_take, List.length_drop]; omega
theorem spl_len : ∀ (l : List GEdit) (s : List UInt8) (a : Int), seqd s a l → (spl s a l).length ≤ (s.length - a.toNat) + sumT l
  | [], s, a, h => by unfold spl; rw [List.length_drop]; omega
  | c :: r, s, a, h => by
    obtain ⟨h0, h1, h2, h3, h4⟩ := h
    have := spl_len r s c.to h4
    have h5 := cut_len s a c.from_ h0 h1 (by omega)
    unfold spl
    rw [List.length_append, List.length_append, h5, sumT_cons]; omega
theorem apply_inner (fs : List GFile) (mm : List GEdit × Int) (i : Nat) (out : List GFile) (f : GFile) (hf : out[i]? = some f) (hn : mm.1.length ≤ 1000000) (ht : sumT mm.1 + f.text.length ≤ 2000000000) (hs : seqd f.text 0 (onF i mm.1)) :
    ∃ a : Int, ∃ t, loopS (edits_Apply_b4 mm (i : Int) out) ((0 : Int), (0 : Int), ([] : List UInt8)) = some (a, t) ∧ 0 ≤ a ∧ a ≤ (f.text.length : Int) ∧ t ++ f.text.drop a.toNat = spl f.text 0 (onF i mm.1) ∧ t.length + (f.text.length - a.toNat) ≤ 2000000000 := by
  obtain ⟨m, e⟩ := mm
  dsimp only at hn ht hs ⊢
  obtain ⟨r, h1, h2⟩ := loopS_ix (f := edits_Apply_b4 (m, e) (i : Int) out) m.length (by omega)
    (fun k x => x.2.1 = (k : Int) ∧ seqd f.text x.1 (onF i (m.drop k)) ∧ x.2.2 ++ spl f.text x.1 (onF i (m.drop k)) = spl f.text 0 (onF i m) ∧ x.2.2.length + (f.text.length - x.1.toNat) + sumT (m.drop k) ≤ f.text.length + sumT m)
    (fun r => 0 ≤ r.1 ∧ r.1 ≤ (f.text.length : Int) ∧ r.2 ++ f.text.drop r.1.toNat = spl f.text 0 (onF i m) ∧ r.2.length + (f.text.length - r.1.toNat) ≤ 2000000000) (s0 := ((0 : Int), (0 : Int), ([] : List UInt8))) ⟨rfl, hs, rfl, by simp⟩ (by
    rintro k ⟨a, x1, t⟩ hk ⟨rfl, hq, ht1, ht2⟩
    dsimp only at hq ht1 ht2
    unfold edits_Apply_b4
    have hlt : (k : Int) < (m.length : Int) := by omega
    simp only [chkB, dT hlt, if_true, ix_at hk, Option.bind_some]
    have hd := List.drop_eq_getElem_cons hk
    have hst := sumT_drop m k hk
    left
    by_cases hc : m[k].file_ = (i : Int)
    · rw [hd, onF_pos hc] at hq ht1
      obtain ⟨q0, q1, q2, q3, q4⟩ := hq
      rw [if_pos (dT hc), ix_of hf rfl]
      have hcl := cut_len f.text a m[k].from_ q0 q1 (by omega)
      have hcl2 : ((f.text.drop a.toNat).take (m[k].from_.toNat - a.toNat)).length = (m[k].from_ - a).toNat := hcl
      simp only [Option.bind_some]
      rw [pk ⟨q0, q1, by omega⟩, pk (by rw [hcl2]; omega), pk (by rw [List.length_append, hcl2]; omega), pk (i64_small (by omega) (by omega))]
      refine ⟨_, rfl, fl_nat k, q4, ?_, ?_⟩
      · rw [← ht1]
        show (t ++ cut f.text a m[k].from_) ++ m[k].text ++ _ = _ ++ (cut f.text a m[k].from_ ++ m[k].text ++ _)
        simp only [List.append_assoc]
      · show ((t ++ cut f.text a m[k].from_) ++ m[k].text).length + _ + _ ≤ _
        rw [List.length_append, List.length_append, hcl]; omega
    · rw [hd, onF_neg hc] at hq ht1
      rw [if_neg (by rw [dF hc]; simp), pk (i64_small (by omega) (by omega))]
      exact ⟨_, rfl, fl_nat k, hq, ht1, by dsimp only; omega⟩) (by
    rintro ⟨a, x1, t⟩ ⟨rfl, hq, ht1, ht2⟩
    dsimp only at hq ht1 ht2
    unfold edits_Apply_b4
    have hlt : ¬ (m.length : Int) < (m.length : Int) := by omega
    rw [List.drop_length] at hq ht1
    refine ⟨_, if_neg (by rw [dF hlt]; simp), hq.1, hq.2, ht1, ?_⟩
    rw [List.drop_length] at ht2
    dsimp only
    have : sumT [] = 0 := rfl
    omega)
  exact ⟨r.1, r.2, h1, h2⟩
theorem apply_outer (fs : List GFile) (mm : List GEdit × Int) (hfs : fs.length ≤ 1000000) (hn : mm.1.length ≤ 1000000) (ht : ∀ f ∈ fs, sumT mm.1 + f.text.length ≤ 2000000000) (hg : Good fs mm.1) :
    loopS (edits_Apply_b2 fs mm) ((0 : Int), fs) = some (applyS fs mm.1) := by
  obtain ⟨r, h1, h2⟩ := loopS_ix (f := edits_Apply_b2 fs mm) fs.length (by omega)
    (fun k x => x.1 = (k : Int) ∧ x.2.length = fs.length ∧ ∀ j, x.2[j]? = if j < k then (applyS fs mm.1)[j]? else fs[j]?)
    (fun r => r = applyS fs mm.1) (s0 := ((0 : Int), fs)) ⟨rfl, rfl, fun j => by rw [if_neg (Nat.not_lt_zero j)]⟩ (by
    rintro k ⟨x1, out⟩ hk ⟨rfl, hl, ho⟩
    dsimp only at hl ho
    unfold edits_Apply_b2
    have hlt : (k : Int) < (fs.length : Int) := by omega
    have hok : out[k]? = some fs[k] := by rw [ho k, if_neg (Nat.lt_irrefl k), List.getElem?_eq_getElem hk]
    have hsq := hg.seqd (k : Int)
    rw [txt_at (List.getElem?_eq_getElem hk)] at hsq
    obtain ⟨a, t, e1, a0, a1, a2, a3⟩ := apply_inner fs mm k out fs[k] hok hn (ht _ (List.getElem_mem hk)) hsq
    left
    refine ⟨((k : Int) + 1, out.set k (oneF mm.1 k fs[k])), (if_pos (dT hlt)).trans ?_, fl_nat k, by rw [List.length_set]; exact hl, fun j => ?_⟩
    · rw [e1]
      show edits_Apply_j3 (k : Int) out (a, t) = _
      unfold edits_Apply_j3
      simp only [chkB, ix_of hok rfl, Option.bind_some]
      rw [pk ⟨a0, a1⟩, pk (by rw [List.length_drop]; omega), pk (i64_small (by omega) (by omega)), a2]
      rfl
    · rw [List.getElem?_set]
      by_cases e : k = j
      · subst e
        rw [if_pos rfl, if_pos (by omega), if_pos (Nat.lt_succ_self k), applyS_at, List.getElem?_eq_getElem hk]; rfl
      · rw [if_neg e, ho j]
        by_cases h : j < k
        · rw [if_pos h, if_pos (by omega)]
        · rw [if_neg h, if_neg (by omega)]) (by
    rintro ⟨x1, out⟩ ⟨rfl, hl, ho⟩
    dsimp only at hl ho
    unfold edits_Apply_b2
    have hlt : ¬ (fs.length : Int) < (fs.length : Int) := by omega
    refine ⟨_, if_neg (by rw [dF hlt]; simp), ?_⟩
    apply List.ext_getElem?
    intro j
    rw [ho j]
    by_cases h : j < fs.length
    · rw [if_pos h]
    · rw [if_neg h, List.getElem?_eq_none (by omega), List.getElem?_eq_none (by rw [applyS_len]; omega)])
  rw [h1, h2]
def appliedS (fs : List GFile) (l : List GEdit) : List GFile × Int := if (normS fs l).2 = 0 then (applyS fs (normS fs l).1, 0) else ([], (normS fs l).2)
theorem apply_eq (fs : List GFile) (l : List GEdit) (hfs : fs.length ≤ 1000000) (hn : l.length ≤ 1000000) (ht : sumT l ≤ 1000000000) (hf : ∀ f ∈ fs, f.text.length ≤ 1000000000) : edits_Apply fs l = some (appliedS fs l) := by
  unfold edits_Apply appliedS
  rw [normal_eq fs l hn ht]
  simp only [Option.bind_some]
  by_cases h : (normS fs l).2 = 0
  · rw [if_pos h, if_neg (by rw [dT h]; simp)]
    rw [chkT (by omega)]
    have h1 := normS_len fs l
    have h2 := normS_sum fs l
    rw [apply_outer fs _ hfs (by omega) (fun f hh => by have := hf f hh; omega) (normS_good h)]
    rfl
  · rw [if_neg h, if_pos (by rw [dF h]; rfl)]
end Go.Sh
