/-
  Edits that undo edits: EditsUndone in plain words. No program in sight.
-/
import Derived.Test.YtdflfbolaicliaaK7
set_option linter.unusedVariables false
set_option linter.unusedSimpArgs false
namespace Go.Sh
open Go
def upd (f : Int → Int) (i v : Int) : Int → Int := fun j => if j = i then v else f j
theorem upd_same (f : Int → Int) (i v : Int) : upd f i v i = v := if_pos rfl
theorem upd_ne (f : Int → Int) {i j : Int} (v : Int) (h : ¬ j = i) : upd f i v j = f j := if_neg h
def undoL (fs : List GFile) : (Int → Int) → List GEdit → List GEdit
  | _, [] => []
  | mv, c :: r => ⟨c.file_, c.from_ + mv c.file_, c.from_ + mv c.file_ + (c.text.length : Int), cut (txt fs c.file_) c.from_ c.to⟩ :: undoL fs (upd mv c.file_ (mv c.file_ + ((c.text.length : Int) - (c.to - c.from_)))) r
theorem undoL_cons (fs : List GFile) (mv : Int → Int) (c : GEdit) (r : List GEdit) : undoL fs mv (c :: r) = ⟨c.file_, c.from_ + mv c.file_, c.from_ + mv c.file_ + (c.text.length : Int), cut (txt fs c.file_) c.from_ c.to⟩ :: undoL fs (upd mv c.file_ (mv c.file_ + ((c.text.length : Int) - (c.to - c.from_)))) r := rfl
theorem onF_undo_pos {fs : List GFile} {mv : Int → Int} {c : GEdit} {r : List GEdit} {i : Int} (h : c.file_ = i) : onF i (undoL fs mv (c :: r)) = ⟨c.file_, c.from_ + mv c.file_, c.from_ + mv c.file_ + (c.text.length : Int), cut (txt fs c.file_) c.from_ c.to⟩ :: onF i (undoL fs (upd mv c.file_ (mv c.file_ + ((c.text.length : Int) - (c.to - c.from_)))) r) :=
  onF_pos (c := ⟨c.file_, c.from_ + mv c.file_, c.from_ + mv c.file_ + (c.text.length : Int), cut (txt fs c.file_) c.from_ c.to⟩) h
theorem onF_undo_neg {fs : List GFile} {mv : Int → Int} {c : GEdit} {r : List GEdit} {i : Int} (h : ¬ c.file_ = i) : onF i (undoL fs mv (c :: r)) = onF i (undoL fs (upd mv c.file_ (mv c.file_ + ((c.text.length : Int) - (c.to - c.from_)))) r) :=
  onF_neg (c := ⟨c.file_, c.from_ + mv c.file_, c.from_ + mv c.file_ + (c.text.length : Int), cut (txt fs c.file_) c.from_ c.to⟩) h
theorem undoL_congr (fs : List GFile) : ∀ (r : List GEdit) (f g : Int → Int), (∀ c ∈ r, f c.file_ = g c.file_) → undoL fs f r = undoL fs g r
  | [], _, _, _ => rfl
  | c :: r, f, g, h => by
    have h0 := h c (List.mem_cons_self ..)
    unfold undoL
    rw [h0]
    congr 1
    refine undoL_congr fs r _ _ fun d hd => ?_
    unfold upd
    by_cases e : d.file_ = c.file_
    · rw [if_pos e, if_pos e]
    · rw [if_neg e, if_neg e]; exact h d (List.mem_cons_of_mem _ hd)
theorem undoL_len (fs : List GFile) : ∀ (r : List GEdit) (f : Int → Int), (undoL fs f r).length = r.length
  | [], _ => rfl
  | c :: r, f => by unfold undoL; rw [List.length_cons, undoL_len fs r, List.length_cons]
def mvOf (l : List Int) : Int → Int := fun i => l[i.toNat]?.getD 0
theorem undo_loop (fs : List GFile) (mm : List GEdit × Int) (hn : mm.1.length ≤ 1000000) (ht : sumT mm.1 ≤ 1000000000) (hfl : ∀ f ∈ fs, f.text.length ≤ 1000000000) (hr : ∀ x ∈ mm.1, RightE fs x) :
    loopS (edits_Undo_b2 fs mm) ((0 : Int), ([] : List GEdit), List.replicate fs.length (0 : Int)) = some (undoL fs (fun _ => 0) mm.1) := by
  obtain ⟨m, e⟩ := mm
  dsimp only at hn ht hr ⊢
  obtain ⟨r, h1, h2⟩ := loopS_ix (f := edits_Undo_b2 fs (m, e)) m.length (by omega)
    (fun k x => x.1 = (k : Int) ∧ x.2.2.length = fs.length ∧ x.2.1.length = k ∧ (∀ v ∈ x.2.2, -((k : Int) * 3000000000) ≤ v ∧ v ≤ (k : Int) * 3000000000) ∧ x.2.1 ++ undoL fs (mvOf x.2.2) (m.drop k) = undoL fs (fun _ => 0) m)
    (fun r => r = undoL fs (fun _ => 0) m) (s0 := ((0 : Int), ([] : List GEdit), List.replicate fs.length (0 : Int))) ⟨rfl, by simp, rfl, fun v hv => by have := (List.mem_replicate.1 hv).2; omega, by
      rw [List.drop_zero]
      show undoL fs (mvOf (List.replicate fs.length 0)) m = _
      refine undoL_congr fs m _ _ fun c hc => ?_
      unfold mvOf
      rw [List.getElem?_replicate]
      split <;> rfl⟩ (by
    rintro k ⟨x1, out, mv⟩ hk ⟨h1, hl, hol, hb, ho⟩
    dsimp only at h1 hl hol hb ho
    subst h1
    unfold edits_Undo_b2
    have hlt : (k : Int) < (m.length : Int) := by omega
    have hc := hr _ (List.getElem_mem hk)
    obtain ⟨a1, a2, a3, a4, a5⟩ := hc
    obtain ⟨f, hfx, hft, hf⟩ := ix_in a1 a2
    have hfb := hfl f (List.mem_of_getElem? hf)
    have hmx : Sh.ix mv m[k].file_ = some (mvOf mv m[k].file_) := by
      have hlt2 : m[k].file_.toNat < mv.length := by omega
      unfold Sh.ix mvOf
      rw [if_pos a1, List.getElem?_eq_getElem hlt2]; rfl
    have hmb := hb (mvOf mv m[k].file_) (List.mem_of_getElem? (ix_spec hmx).2)
    have htc : m[k].text.length ≤ sumT m := by
      have := sumT_drop m k hk
      have := sumT_dropL m k
      omega
    rw [← hft] at a5
    left
    refine ⟨((k : Int) + 1, out ++ [⟨m[k].file_, m[k].from_ + mvOf mv m[k].file_, m[k].from_ + mvOf mv m[k].file_ + (m[k].text.length : Int), cut (txt fs m[k].file_) m[k].from_ m[k].to⟩], mv.set m[k].file_.toNat (mvOf mv m[k].file_ + ((m[k].text.length : Int) - (m[k].to - m[k].from_)))), ?_, fl_nat k, by rw [List.length_set]; exact hl, by simp [hol], ?_, ?_⟩
    · simp only [chkB, dT hlt, if_true, ix_at hk, Option.bind_some, hmx, hfx]
      rw [pk (i64_small (by omega) (by omega)), pk (i64_small (by omega) (by omega)), pk ⟨a3, a4, a5⟩, pk (by omega), pk (i64_small (by omega) (by omega)), pk (i64_small (by omega) (by omega)), pk (i64_small (by omega) (by omega)), pk (i64_small (by omega) (by omega)), hft]
      rfl
    · intro v hv
      dsimp only at hv
      rcases List.mem_or_eq_of_mem_set hv with h | h
      · have := hb v h; omega
      · omega
    · dsimp only
      rw [List.append_assoc, ← ho, List.drop_eq_getElem_cons hk]
      congr 1
      rw [undoL_cons, List.singleton_append]
      congr 1
      refine undoL_congr fs _ _ _ fun d hd => ?_
      have hd2 := hr d (List.mem_of_mem_drop hd)
      unfold upd
      by_cases e : d.file_ = m[k].file_
      · rw [if_pos e, e]
        show ((mv.set m[k].file_.toNat _)[m[k].file_.toNat]?).getD 0 = _
        rw [List.getElem?_set_self (by omega)]; rfl
      · rw [if_neg e]
        show ((mv.set m[k].file_.toNat _)[d.file_.toNat]?).getD 0 = _
        rw [List.getElem?_set_ne (by have := hd2.1; omega)]; rfl) (by
    rintro ⟨x1, out, mv⟩ ⟨h1, hl, hol, hb, ho⟩
    dsimp only at h1 hl hol hb ho
    subst h1
    unfold edits_Undo_b2
    have hlt : ¬ (m.length : Int) < (m.length : Int) := by omega
    refine ⟨_, if_neg (by rw [dF hlt]; simp), ?_⟩
    rw [List.drop_length] at ho
    rw [← ho]; exact (List.append_nil _).symm)
  rw [h1, h2]
def undoneS (fs : List GFile) (l : List GEdit) : List GEdit × Int := if (normS fs l).2 = 0 then (undoL fs (fun _ => 0) (normS fs l).1, 0) else ([], (normS fs l).2)
theorem undo_eq (fs : List GFile) (l : List GEdit) (hfs : fs.length ≤ 1000000) (hn : l.length ≤ 1000000) (ht : sumT l ≤ 1000000000) (hf : ∀ f ∈ fs, f.text.length ≤ 1000000000) : edits_Undo fs l = some (undoneS fs l) := by
  unfold edits_Undo undoneS
  rw [normal_eq fs l hn ht]
  simp only [Option.bind_some, chkB]
  have h1 := normS_len fs l
  have h2 := normS_sum fs l
  by_cases h : (normS fs l).2 = 0
  · rw [if_pos h, if_neg (by rw [dT h]; simp), pk ⟨by omega, by omega, by omega⟩, Int.toNat_natCast]
    rw [undo_loop fs _ (by omega) (by omega) hf (normS_good h).right]; rfl
  · rw [if_neg h, if_pos (by rw [dF h]; rfl)]
/-! ### back -/
def Inv (fs a : List GFile) (at_ mv : Int → Int) (r : List GEdit) : Prop := ∀ i, 0 ≤ i → i < (fs.length : Int) → 0 ≤ at_ i ∧ 0 ≤ at_ i + mv i ∧ at_ i + mv i ≤ ((txt a i).length : Int) ∧ (txt a i).drop (at_ i + mv i).toNat = spl (txt fs i) (at_ i) (onF i r) ∧ seqd (txt fs i) (at_ i) (onF i r)
theorem drop_drop_int (s : List UInt8) (a b : Int) (h0 : 0 ≤ a) (h : a ≤ b) : s.drop b.toNat = (s.drop a.toNat).drop (b - a).toNat := by
  rw [List.drop_drop]; congr 1; omega
structure Facts (fs a : List GFile) (at_ mv : Int → Int) (c : GEdit) : Prop where
  lo : 0 ≤ c.from_ + mv c.file_
  at_le : at_ c.file_ ≤ c.from_
  at0 : 0 ≤ at_ c.file_
  hi : c.from_ + mv c.file_ + (c.text.length : Int) ≤ ((txt a c.file_).length : Int)
  pre : cut (txt a c.file_) (at_ c.file_ + mv c.file_) (c.from_ + mv c.file_) = cut (txt fs c.file_) (at_ c.file_) c.from_
  mid : cut (txt a c.file_) (c.from_ + mv c.file_) (c.from_ + mv c.file_ + (c.text.length : Int)) = c.text
  old : (cut (txt fs c.file_) c.from_ c.to).length = (c.to - c.from_).toNat
theorem Inv.step {fs a : List GFile} {at_ mv : Int → Int} {c : GEdit} {r : List GEdit} (h : Inv fs a at_ mv (c :: r)) (hc : RightE fs c) :
    Facts fs a at_ mv c ∧ Inv fs a (upd at_ c.file_ c.to) (upd mv c.file_ (mv c.file_ + ((c.text.length : Int) - (c.to - c.from_)))) r := by
  obtain ⟨a1, a2, a3, a4, a5⟩ := hc
  obtain ⟨b0, b1, b2, b3, b4⟩ := h c.file_ a1 a2
  rw [onF_pos rfl] at b3 b4
  obtain ⟨q0, q1, q2, q3, q4⟩ := b4
  unfold spl at b3
  have hcl := cut_len (txt fs c.file_) (at_ c.file_) c.from_ q0 q1 (by omega)
  have hlen := congrArg List.length b3
  rw [List.length_drop, List.length_append, List.length_append, hcl] at hlen
  have d1 : (txt a c.file_).drop (c.from_ + mv c.file_).toNat = c.text ++ spl (txt fs c.file_) c.to (onF c.file_ r) := by
    rw [drop_drop_int _ (at_ c.file_ + mv c.file_) _ b1 (by omega), b3, List.append_assoc, List.drop_append, List.drop_eq_nil_of_le (by rw [hcl]; omega), List.nil_append, hcl]
    rw [show (c.from_ + mv c.file_ - (at_ c.file_ + mv c.file_)).toNat - (c.from_ - at_ c.file_).toNat = 0 by omega, List.drop_zero]
  have d2 : (txt a c.file_).drop (c.from_ + mv c.file_ + (c.text.length : Int)).toNat = spl (txt fs c.file_) c.to (onF c.file_ r) := by
    rw [drop_drop_int _ (c.from_ + mv c.file_) _ (by omega) (by omega), d1, List.drop_append, List.drop_eq_nil_of_le (by omega), List.nil_append]
    rw [show (c.from_ + mv c.file_ + (c.text.length : Int) - (c.from_ + mv c.file_)).toNat - c.text.length = 0 by omega, List.drop_zero]
  refine ⟨⟨by omega, q1, q0, by omega, ?_, ?_, cut_len _ _ _ a3 a4 a5⟩, fun i i0 i1 => ?_⟩
  · show ((txt a c.file_).drop (at_ c.file_ + mv c.file_).toNat).take ((c.from_ + mv c.file_).toNat - (at_ c.file_ + mv c.file_).toNat) = _
    rw [b3, List.append_assoc, List.take_append_of_le_length (by rw [hcl]; omega), List.take_of_length_le (by rw [hcl]; omega)]
  · show ((txt a c.file_).drop (c.from_ + mv c.file_).toNat).take _ = _
    rw [d1, List.take_append_of_le_length (by omega), List.take_of_length_le (by omega)]
  · by_cases e : i = c.file_
    · subst e
      rw [upd_same, upd_same]
      have e2 : c.to + (mv c.file_ + ((c.text.length : Int) - (c.to - c.from_))) = c.from_ + mv c.file_ + (c.text.length : Int) := by omega
      rw [e2]
      exact ⟨by omega, by omega, by omega, d2, q4⟩
    · rw [upd_ne _ _ e, upd_ne _ _ e]
      have := h i i0 i1
      rw [onF_neg (fun hh => e hh.symm)] at this
      exact this
theorem undo_low (fs : List GFile) : ∀ (r : List GEdit) (mv : Int → Int) (i x : Int), r.Pairwise G → (∀ c ∈ r, c.file_ = i → x ≤ c.from_) → ∀ u ∈ undoL fs mv r, u.file_ = i → x + mv i ≤ u.from_
  | [], mv, i, x, _, _, u, hu, _ => by cases hu
  | c :: r, mv, i, x, hp, hx, u, hu, hi => by
    have hcp := List.pairwise_cons.1 hp
    have hc := hx c (List.mem_cons_self ..)
    unfold undoL at hu
    rcases List.mem_cons.1 hu with e | hu
    · subst e
      have hi : c.file_ = i := hi
      show x + mv i ≤ c.from_ + mv c.file_
      have := hc hi
      rw [hi]; omega
    · by_cases e : c.file_ = i
      · have h1 := undo_low fs r _ i (c.to + 1) hcp.2 (fun d hd he => by have := hcp.1 d hd; unfold G at this; omega) u hu hi
        rw [e, upd_same] at h1
        have := hc e
        omega
      · have h1 := undo_low fs r _ i x hcp.2 (fun d hd he => hx d (List.mem_cons_of_mem _ hd) he) u hu hi
        rwa [upd_ne _ _ (fun hh => e hh.symm)] at h1
theorem undo_file (fs : List GFile) : ∀ (r : List GEdit) (mv : Int → Int), ∀ u ∈ undoL fs mv r, (∃ c ∈ r, u.file_ = c.file_) ∧ u.from_ ≤ u.to
  | [], mv, u, hu => by cases hu
  | c :: r, mv, u, hu => by
    unfold undoL at hu
    rcases List.mem_cons.1 hu with e | hu
    · subst e; exact ⟨⟨c, List.mem_cons_self .., rfl⟩, by show c.from_ + mv c.file_ ≤ c.from_ + mv c.file_ + (c.text.length : Int); omega⟩
    · obtain ⟨⟨d, hd, e⟩, h2⟩ := undo_file fs r _ u hu
      exact ⟨⟨d, List.mem_cons_of_mem _ hd, e⟩, h2⟩
theorem undo_gap (fs : List GFile) : ∀ (r : List GEdit) (mv : Int → Int), r.Pairwise G → (undoL fs mv r).Pairwise G
  | [], mv, _ => .nil
  | c :: r, mv, hp => by
    have hcp := List.pairwise_cons.1 hp
    unfold undoL
    refine List.pairwise_cons.2 ⟨fun u hu => ?_, undo_gap fs r _ hcp.2⟩
    obtain ⟨⟨d, hd, e⟩, h2⟩ := undo_file fs r _ u hu
    have hG := hcp.1 d hd
    refine ⟨by dsimp only; omega, h2, ?_⟩
    dsimp only
    by_cases hf : c.file_ = d.file_
    · right
      have hl := undo_low fs r _ c.file_ (c.to + 1) hcp.2 (fun d hd he => by have := hcp.1 d hd; unfold G at this; omega) u hu (by rw [e, hf])
      rw [upd_same] at hl
      exact ⟨by rw [e, hf], by unfold G at hG; omega⟩
    · left; rw [e]; unfold G at hG; omega
theorem undo_right {fs a : List GFile} (ha : a.length = fs.length) : ∀ (r : List GEdit) (at_ mv : Int → Int), Inv fs a at_ mv r → (∀ c ∈ r, RightE fs c) → ∀ u ∈ undoL fs mv r, RightE a u
  | [], _, mv, _, _, u, hu => by cases hu
  | c :: r, at_, mv, hi, hr, u, hu => by
    have hc := hr c (List.mem_cons_self ..)
    obtain ⟨F, hi2⟩ := hi.step hc
    unfold undoL at hu
    rcases List.mem_cons.1 hu with e | hu
    · subst e
      exact ⟨hc.1, by rw [ha]; exact hc.2.1, F.lo, by show c.from_ + mv c.file_ ≤ c.from_ + mv c.file_ + (c.text.length : Int); omega, F.hi⟩
    · exact undo_right ha r _ _ hi2 (fun d hd => hr d (List.mem_cons_of_mem _ hd)) u hu
theorem undo_acts {fs a : List GFile} : ∀ (r : List GEdit) (at_ mv : Int → Int), Inv fs a at_ mv r → (∀ c ∈ r, RightE fs c) → (∀ c ∈ r, nidle fs c = true) → ∀ u ∈ undoL fs mv r, nidle a u = true
  | [], _, mv, _, _, _, u, hu => by cases hu
  | c :: r, at_, mv, hi, hr, hn, u, hu => by
    have hc := hr c (List.mem_cons_self ..)
    obtain ⟨F, hi2⟩ := hi.step hc
    unfold undoL at hu
    rcases List.mem_cons.1 hu with e | hu
    · subst e
      have h1 := hn c (List.mem_cons_self ..)
      unfold nidle idle at h1 ⊢
      dsimp only
      rw [F.mid]
      by_cases h2 : c.text = cut (txt fs c.file_) c.from_ c.to
      · rw [dT h2.symm] at h1; cases h1
      · rw [dF h2]; rfl
    · exact undo_acts r _ _ hi2 (fun d hd => hr d (List.mem_cons_of_mem _ hd)) (fun d hd => hn d (List.mem_cons_of_mem _ hd)) u hu
theorem cut_drop (s : List UInt8) (a b : Int) (h0 : 0 ≤ a) (h : a ≤ b) : cut s a b ++ s.drop b.toNat = s.drop a.toNat := by
  unfold cut
  rw [drop_drop_int s a b h0 h, show b.toNat - a.toNat = (b - a).toNat by omega, List.take_append_drop]
theorem undo_spl {fs a : List GFile} : ∀ (r : List GEdit) (at_ mv : Int → Int), Inv fs a at_ mv r → (∀ c ∈ r, RightE fs c) → ∀ i, 0 ≤ i → i < (fs.length : Int) → spl (txt a i) (at_ i + mv i) (onF i (undoL fs mv r)) = (txt fs i).drop (at_ i).toNat
  | [], at_, mv, hi, _, i, i0, i1 => (hi i i0 i1).2.2.2.1
  | c :: r, at_, mv, hi, hr, i, i0, i1 => by
    have hc := hr c (List.mem_cons_self ..)
    obtain ⟨F, hi2⟩ := hi.step hc
    have ih := undo_spl r _ _ hi2 (fun d hd => hr d (List.mem_cons_of_mem _ hd)) i i0 i1
    by_cases e : c.file_ = i
    · subst e
      rw [onF_undo_pos rfl]
      rw [upd_same, upd_same] at ih
      unfold spl
      dsimp only
      rw [F.pre, show c.from_ + mv c.file_ + (c.text.length : Int) = c.to + (mv c.file_ + ((c.text.length : Int) - (c.to - c.from_))) by omega, ih, List.append_assoc, cut_drop _ _ _ hc.2.2.1 hc.2.2.2.1, cut_drop _ _ _ F.at0 F.at_le]
    · rw [onF_undo_neg e]
      rwa [upd_ne _ _ (fun hh => e hh.symm), upd_ne _ _ (fun hh => e hh.symm)] at ih
theorem undo_undo {fs a : List GFile} : ∀ (r : List GEdit) (at_ mv mv2 : Int → Int), Inv fs a at_ mv r → (∀ c ∈ r, RightE fs c) → (∀ i, mv2 i = - mv i) → undoL a mv2 (undoL fs mv r) = r
  | [], _, _, _, _, _, _ => rfl
  | c :: r, at_, mv, mv2, hi, hr, hm => by
    have hc := hr c (List.mem_cons_self ..)
    obtain ⟨F, hi2⟩ := hi.step hc
    unfold undoL
    show undoL a mv2 (_ :: _) = _
    unfold undoL
    dsimp only
    have h1 := hm c.file_
    have h4 := hc.2.2.2.1
    have hold := F.old
    have e1 : c.from_ + mv c.file_ + mv2 c.file_ = c.from_ := by omega
    have e2 : c.from_ + ((cut (txt fs c.file_) c.from_ c.to).length : Int) = c.to := by omega
    rw [e1, e2, F.mid]
    congr 1
    refine undo_undo r _ _ _ hi2 (fun d hd => hr d (List.mem_cons_of_mem _ hd)) fun i => ?_
    by_cases e : i = c.file_
    · subst e
      rw [upd_same, upd_same]; omega
    · rw [upd_ne _ _ e, upd_ne _ _ e]; exact hm i
theorem inv0 {fs : List GFile} {m : List GEdit} (hg : Good fs m) : Inv fs (applyS fs m) (fun _ => 0) (fun _ => 0) m := fun i i0 i1 => by
  refine ⟨Int.le_refl _, by show (0 : Int) ≤ 0 + 0; omega, by show (0 : Int) + 0 ≤ _; omega, ?_, hg.seqd i⟩
  show (txt (applyS fs m) i).drop 0 = _
  rw [List.drop_zero, txt_apply i0 i1]
theorem undone_good {fs : List GFile} {m : List GEdit} (hg : Good fs m) : Good (applyS fs m) (undoL fs (fun _ => 0) m) :=
  ⟨undo_right (applyS_len fs m) m _ _ (inv0 hg) hg.right, undo_gap fs m _ hg.gap, undo_acts m _ _ (inv0 hg) hg.right hg.acts⟩
theorem undone_apply {fs : List GFile} {m : List GEdit} (hg : Good fs m) : applyS (applyS fs m) (undoL fs (fun _ => 0) m) = fs := by
  apply List.ext_getElem?
  intro j
  rw [applyS_at, applyS_at]
  cases hf : fs[j]? with
  | none => rfl
  | some f =>
    have hj := (List.getElem?_eq_some_iff.1 hf).1
    have h := undo_spl m _ _ (inv0 hg) hg.right (j : Int) (by omega) (by omega)
    rw [txt_apply (by omega) (by omega), txt_at hf] at h
    show some (oneF _ (j : Int) (oneF m (j : Int) f)) = some f
    unfold oneF
    dsimp only
    have h' : spl (spl f.text 0 (onF (j : Int) m)) 0 (onF (j : Int) (undoL fs (fun _ => 0) m)) = f.text := h
    rw [h']
theorem undone_undone {fs : List GFile} {m : List GEdit} (hg : Good fs m) : undoL (applyS fs m) (fun _ => 0) (undoL fs (fun _ => 0) m) = m :=
  undo_undo m _ _ _ (inv0 hg) hg.right fun i => rfl
theorem undoL_sum (fs : List GFile) (n : Nat) (hf : ∀ i, (txt fs i).length ≤ n) : ∀ (r : List GEdit) (mv : Int → Int), sumT (undoL fs mv r) ≤ r.length * n
  | [], _ => Nat.zero_le _
  | c :: r, mv => by
    unfold undoL
    have h1 := undoL_sum fs n hf r (upd mv c.file_ (mv c.file_ + ((c.text.length : Int) - (c.to - c.from_))))
    have h2 : (cut (txt fs c.file_) c.from_ c.to).length ≤ n := by
      unfold cut; rw [List.length_take, List.length_drop]; have := hf c.file_; omega
    rw [sumT_cons, List.length_cons, Nat.add_mul, Nat.one_mul]
    dsimp only; omega
theorem txt_bound {fs : List GFile} {n : Nat} (h : ∀ f ∈ fs, f.text.length ≤ n) (i : Int) : (txt fs i).length ≤ n := by
  unfold txt
  cases hf : fs[i.toNat]? with
  | none => exact Nat.zero_le _
  | some f => exact h f (List.mem_of_getElem? hf)
theorem applyS_bound {fs : List GFile} {m : List GEdit} {n : Nat} (hg : Good fs m) (h : ∀ f ∈ fs, f.text.length ≤ n) : ∀ f ∈ applyS fs m, f.text.length ≤ n + sumT m := by
  intro f hf
  obtain ⟨j, hj⟩ := List.mem_iff_getElem?.1 hf
  rw [applyS_at] at hj
  cases hf0 : fs[j]? with
  | none => rw [hf0] at hj; cases hj
  | some f0 =>
    rw [hf0] at hj
    have hj : oneF m (j : Int) f0 = f := by simpa using hj
    have hs := hg.seqd (j : Int)
    rw [txt_at hf0] at hs
    have h1 := spl_len _ _ _ hs
    have h2 := h f0 (List.mem_of_getElem? hf0)
    have h3 := sumT_onF (j : Int) m
    rw [← hj]
    show (spl f0.text 0 (onF (j : Int) m)).length ≤ _
    have h1' : (spl f0.text 0 (onF (j : Int) m)).length ≤ (f0.text.length - (0 : Int).toNat) + sumT (onF (j : Int) m) := h1
    omega
theorem editsUndone_law (fs : List GFile) (l : List GEdit) : emendlaw20_EditsUndone fs l = some true := by
  unfold emendlaw20_EditsUndone
  rw [awake_eq]
  obtain ⟨b, hb, hs⟩ := short_eq fs l
  rw [hb]
  simp only [Option.bind_some]
  cases b with
  | false => rfl
  | true =>
    have hs := hs rfl
    have h1 := hs.files; have h2 := hs.edits; have h3 := hs.sum
    have h4 := normS_len fs l
    have h6 := normS_sum fs l
    rw [if_neg (by simp), apply_eq fs l (by omega) (by omega) (by omega) hs.texts', undo_eq fs l (by omega) (by omega) (by omega) hs.texts']
    simp only [Option.bind_some]
    by_cases hn0 : (normS fs l).2 = 0
    · have hg := normS_good hn0
      have ea : appliedS fs l = (applyS fs (normS fs l).1, 0) := if_pos hn0
      have eu : undoneS fs l = (undoL fs (fun _ => 0) (normS fs l).1, 0) := if_pos hn0
      rw [ea, eu]
      dsimp only
      rw [if_neg (by simp), if_neg (by simp)]
      have hG := undone_good hg
      have hself := normS_self hG
      have hb1 := applyS_bound hg hs.texts
      have hsum := undoL_sum fs 500 (txt_bound hs.texts) (normS fs l).1 (fun _ => 0)
      have hsum2 := Nat.mul_le_mul_right 500 (Nat.le_trans h4 h2)
      have hlen := undoL_len fs (normS fs l).1 (fun _ => 0)
      have hal := applyS_len fs (normS fs l).1
      have ea2 : appliedS (applyS fs (normS fs l).1) (undoL fs (fun _ => 0) (normS fs l).1) = (fs, 0) := by
        unfold appliedS; rw [hself, if_pos rfl, undone_apply hg]
      have eu2 : undoneS (applyS fs (normS fs l).1) (undoL fs (fun _ => 0) (normS fs l).1) = ((normS fs l).1, 0) := by
        unfold undoneS; rw [hself, if_pos rfl, undone_undone hg]
      have ea3 : appliedS fs (normS fs l).1 = (applyS fs (normS fs l).1, 0) := by
        unfold appliedS; rw [normS_self hg, if_pos rfl]
      rw [apply_eq _ _ (by omega) (by omega) (by omega) (fun f hf => by have := hb1 f hf; omega), undo_eq _ _ (by omega) (by omega) (by omega) (fun f hf => by have := hb1 f hf; omega), ea2, eu2]
      simp only [Option.bind_some]
      rw [apply_eq fs (normS fs l).1 (by omega) (by omega) (by omega) hs.texts', ea3, normal_eq fs l (by omega) (by omega)]
      simp only [Option.bind_some]
      rw [same_eq _ _ (by omega), same_eq _ _ (by omega), alike_eq _ _ (by omega)]
      simp only [decide_true, andO_true, Option.bind_some]
    · have ea : appliedS fs l = ([], (normS fs l).2) := if_neg hn0
      have eu : undoneS fs l = ([], (normS fs l).2) := if_neg hn0
      rw [ea, eu]
      dsimp only
      rw [if_neg (by simp), if_pos (by rw [dF hn0]; rfl)]
      rfl
end Go.Sh
