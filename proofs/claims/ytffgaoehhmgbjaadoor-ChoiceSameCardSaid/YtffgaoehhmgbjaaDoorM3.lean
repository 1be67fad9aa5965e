/-
  choice in plain words: a set's condition, Select, Keep, Where. No program in sight.
-/
import Derived.Test.YtffgaoehhmgbjaaDoorM2
set_option linter.unusedVariables false
set_option linter.unusedSimpArgs false
namespace Go.Sh
open Go Go.Vc.Bdd
def same (v n : Nat) (s : Asg) : Bool := (List.range v).all fun i => s i == n.testBit i
theorem same_succ (v n : Nat) (s : Asg) : same (v + 1) n s = (same v n s && (s v == n.testBit v)) := by
  unfold same; rw [List.range_succ, List.all_append]; simp
theorem same_asg {v n k : Nat} (hn : n < 2 ^ v) (hk : k < 2 ^ v) : same v n (asg k) = decide (k = n) := by
  by_cases e : k = n
  · subst e
    rw [dT rfl]
    unfold same asg
    simp
  · rw [dF e]
    cases h : same v n (asg k) with
    | false => rfl
    | true =>
      refine absurd (Nat.eq_of_testBit_eq fun i => ?_) e
      by_cases hi : i < v
      · unfold same at h
        have := List.all_eq_true.1 h i (List.mem_range.2 hi)
        simpa [asg] using this
      · have : 2 ^ v ≤ 2 ^ i := Nat.pow_le_pow_right (by omega) (by omega)
        rw [Nat.testBit_lt_two_pow (by omega), Nat.testBit_lt_two_pow (by omega)]
theorem set_ok {A : GArena} (g : GA A) {n : Nat} (hn : n < 256) : ∃ c B, choice_set A (n : Int) = some (c, B) ∧ GA B ∧ AExt A B ∧ Fit B c (same A.v n) := by
  have h3 := g.v3
  unfold choice_set
  rw [show bdd_Vars A = some ((A.v : Int), A) from rfl, Option.bind_some]
  obtain ⟨⟨c, B⟩, h1, h2, h4, h5⟩ := loopS_ix (f := choice_set_b2 (n : Int) ((A.v : Int), A)) A.v (by omega) (fun k x => x.2.1 = (k : Int) ∧ GA x.2.2 ∧ AExt A x.2.2 ∧ Fit x.2.2 x.1 (same k n)) (fun r => GA r.2 ∧ AExt A r.2 ∧ Fit r.2 r.1 (same A.v n)) (s0 := ((1 : Int), (0 : Int), A)) ⟨rfl, g, AExt.refl A, (Fit.one g).congr fun s => rfl⟩ (by
    rintro k ⟨c, t, B⟩ hk ⟨rfl, gB, eB, fB⟩
    replace gB : GA B := gB; replace eB : AExt A B := eB; replace fB : Fit B c (same k n) := fB
    left
    have kk : I64 ((k : Int) + 1) := i64_small (by omega) (by omega)
    have hlt : (k : Int) < ((A.v : Int), A).1 := by simp only; omega
    obtain ⟨x, C, v1, v2, v3, v4⟩ := fVar gB (i := k) (by rw [eB.v]; exact hk)
    cases hb : n.testBit k with
    | false =>
      obtain ⟨y, D, n1, n2, n3, n4⟩ := fNot v2 v4
      obtain ⟨z, E, a1, a2, a3, a4⟩ := fAnd n2 (fB.ext gB (v3.trans n3)) n4
      refine ⟨(z, (k : Int) + 1, E), ?_, fl_nat k, a2, eB.trans (v3.trans (n3.trans a3)), a4.congr fun s => by rw [same_succ, hb]; cases s k <;> simp⟩
      unfold choice_set_b2
      simp only [dT hlt, if_true, v1, Option.bind_some]
      rw [chkB, pk (by omega), bit_zero n k (by omega) (by omega), hb]
      simp only [Bool.not_false, if_true]
      rw [n1, Option.bind_some]
      unfold choice_set_j3
      simp only
      rw [a1, Option.bind_some, chkB, pk kk]
    | true =>
      obtain ⟨z, E, a1, a2, a3, a4⟩ := fAnd v2 (fB.ext gB v3) v4
      refine ⟨(z, (k : Int) + 1, E), ?_, fl_nat k, a2, eB.trans (v3.trans a3), a4.congr fun s => by rw [same_succ, hb]; cases s k <;> simp⟩
      unfold choice_set_b2
      simp only [dT hlt, if_true, v1, Option.bind_some]
      rw [chkB, pk (by omega), bit_zero n k (by omega) (by omega), hb]
      simp only [Bool.not_true, Bool.false_eq_true, if_false]
      unfold choice_set_j3
      simp only
      rw [a1, Option.bind_some, chkB, pk kk]) (by
    rintro ⟨c, t, B⟩ ⟨rfl, gB, eB, fB⟩
    refine ⟨(c, B), ?_, gB, eB, fB⟩
    unfold choice_set_b2
    simp only [dF (show ¬ (A.v : Int) < (A.v : Int) by omega), Bool.false_eq_true, if_false])
  rw [h1, Option.bind_some]
  exact ⟨c, B, rfl, h2, h4, h5⟩
theorem select_ok {A : GArena} (g : GA A) {l : List GChoice_CTok} {L : CL} {k : Nat} (hrep : Rep A l L) (hl : l.length ≤ 1000000) (hk : k < 2 ^ A.v) : choice_Select A l (k : Int) = some (sel L (asg k), A) := by
  have hlen := hrep.len
  unfold choice_Select
  obtain ⟨r, h1, h2⟩ := loopS_ix (f := choice_Select_b2 l (k : Int)) l.length (by omega) (fun t x => x = ((t : Int), sel (L.take t) (asg k), A)) (fun r => r = (sel L (asg k), A)) (s0 := ((0 : Int), ([] : List GTok), A)) rfl (by
    rintro t x ht rfl
    left
    obtain ⟨f1, f2⟩ := hrep.at_ ht (by omega)
    have ho := fHolds g f2 hk
    have hlt : (t : Int) < (l.length : Int) := by omega
    have kk : I64 ((t : Int) + 1) := i64_small (by omega) (by omega)
    have hs : (sel (L.take t) (asg k)).length ≤ t := by
      unfold sel; rw [List.length_map]
      exact Nat.le_trans (List.length_filter_le _ _) (by rw [List.length_take]; omega)
    refine ⟨((t : Int) + 1, sel (L.take (t + 1)) (asg k), A), ?_, by rw [fl_nat]⟩
    unfold choice_Select_b2
    simp only [dT hlt, if_true, ix_at ht, Option.bind_some, ho]
    rw [take_push L t (by omega), sel_push]
    cases hp : L[t].2 (asg k) with
    | true =>
      simp only [if_true]
      rw [chkB, pk (by omega), chkB, pk kk, f1]
    | false =>
      simp only [Bool.false_eq_true, if_false]
      rw [chkB, pk kk, List.append_nil]) (by
    rintro x rfl
    refine ⟨_, ?_, rfl⟩
    unfold choice_Select_b2
    simp only [dF (show ¬ (l.length : Int) < (l.length : Int) by omega), Bool.false_eq_true, if_false]
    rw [hlen, List.take_length])
  rw [h1, Option.bind_some, h2]; rfl
open Classical in
noncomputable def keepL (L : CL) (q : Asg → Bool) : CL := (L.map fun p => (p.1, fun s => p.2 s && q s)).filter fun p => decide (∃ s, p.2 s = true)
theorem keepL_append (L M : CL) (q : Asg → Bool) : keepL (L ++ M) q = keepL L q ++ keepL M q := by unfold keepL; rw [List.map_append, List.filter_append]
theorem keepL_one (p : GTok × (Asg → Bool)) (q : Asg → Bool) (h : ∃ s, (p.2 s && q s) = true) : keepL [p] q = [(p.1, fun s => p.2 s && q s)] := by
  unfold keepL; rw [List.map_singleton, List.filter_cons_of_pos (by simpa using h)]; rfl
theorem keepL_none (p : GTok × (Asg → Bool)) (q : Asg → Bool) (h : ¬ ∃ s, (p.2 s && q s) = true) : keepL [p] q = [] := by
  unfold keepL; rw [List.map_singleton, List.filter_cons_of_neg (by simpa using h)]; rfl
theorem keepL_len (L : CL) (q : Asg → Bool) : (keepL L q).length ≤ L.length := by
  unfold keepL; exact Nat.le_trans (List.length_filter_le _ _) (by rw [List.length_map]; exact Nat.le_refl _)
theorem keepL_some (L : CL) (q : Asg → Bool) : ∀ p ∈ keepL L q, ∃ s, p.2 s = true := by
  intro p hp
  unfold keepL at hp
  simpa using (List.mem_filter.1 hp).2
theorem keepL_sel (L : CL) (q : Asg → Bool) (s : Asg) : sel (keepL L q) s = if q s = true then sel L s else [] := by
  induction L with
  | nil => unfold keepL sel; simp
  | cons p L ih =>
    rw [show p :: L = [p] ++ L from rfl, keepL_append, sel_append, sel_append, ih]
    by_cases h : ∃ s, (p.2 s && q s) = true
    · rw [keepL_one p q h, sel_one, sel_one]
      cases hq : q s <;> cases hp : p.2 s <;> simp [hq, hp]
    · rw [keepL_none p q h]
      have : (p.2 s && q s) = false := by
        cases hh : (p.2 s && q s) with
        | false => rfl
        | true => exact absurd ⟨s, hh⟩ h
      cases hq : q s with
      | false => simp [sel]
      | true =>
        rw [hq, Bool.and_true] at this
        rw [sel_one]; simp [this, sel]
theorem keep_ok {A : GArena} (g : GA A) {l : List GChoice_CTok} {L : CL} {n : Int} {q : Asg → Bool} (hrep : Rep A l L) (hn : Fit A n q) (hl : l.length ≤ 1000000) : ∃ out B, choice_Keep A l n = some (out, B) ∧ GA B ∧ AExt A B ∧ Rep B out (keepL L q) := by
  have hlen := hrep.len
  unfold choice_Keep
  obtain ⟨⟨out, B⟩, h1, h2, h3, h4⟩ := loopS_ix (f := choice_Keep_b2 l n) l.length (by omega) (fun t x => x.1 = (t : Int) ∧ GA x.2.2 ∧ AExt A x.2.2 ∧ Rep x.2.2 x.2.1 (keepL (L.take t) q)) (fun r => GA r.2 ∧ AExt A r.2 ∧ Rep r.2 r.1 (keepL L q)) (s0 := ((0 : Int), ([] : List GChoice_CTok), A)) ⟨rfl, g, AExt.refl A, by rw [List.take_zero]; trivial⟩ (by
    rintro t ⟨x, out, B⟩ ht ⟨rfl, gB, eB, hO⟩
    replace gB : GA B := gB; replace eB : AExt A B := eB; replace hO : Rep B out (keepL (L.take t) q) := hO
    left
    obtain ⟨f1, f2⟩ := hrep.at_ ht (by omega)
    obtain ⟨r, C, a1, a2, a3, a4⟩ := fAnd gB (f2.ext g eB) (hn.ext g eB)
    have hlt : (t : Int) < (l.length : Int) := by omega
    have kk : I64 ((t : Int) + 1) := i64_small (by omega) (by omega)
    have ho := hO.len
    have hkl := keepL_len (L.take t) q
    rw [List.length_take] at hkl
    by_cases h : ∃ s, (L[t].2 s && q s) = true
    · have hne : ¬ r = 0 := fun e => by
        obtain ⟨s, hs⟩ := h
        have := (a4.dec0 a2).1 e s
        simp only [hs] at this; cases this
      refine ⟨((t : Int) + 1, out ++ [⟨l[t].t, r⟩], C), ?_, fl_nat t, a2, eB.trans a3, by rw [take_push L t (by omega), keepL_append, keepL_one _ _ h]; exact (hO.ext gB a3).push f1 a4⟩
      unfold choice_Keep_b2
      simp only [dT hlt, if_true, ix_at ht, Option.bind_some, a1, dF hne, Bool.not_false]
      rw [chkB, pk (by omega), chkB, pk kk]
    · have he : r = 0 := (a4.dec0 a2).2 fun s => by
        cases hh : (L[t].2 s && q s) with
        | false => rfl
        | true => exact absurd ⟨s, hh⟩ h
      refine ⟨((t : Int) + 1, out, C), ?_, fl_nat t, a2, eB.trans a3, by rw [take_push L t (by omega), keepL_append, keepL_none _ _ h, List.append_nil]; exact hO.ext gB a3⟩
      unfold choice_Keep_b2
      simp only [dT hlt, if_true, ix_at ht, Option.bind_some, a1, dT he, Bool.not_true, Bool.false_eq_true, if_false]
      rw [chkB, pk kk]) (by
    rintro ⟨x, out, B⟩ ⟨rfl, gB, eB, hO⟩
    refine ⟨(out, B), ?_, gB, eB, by rw [hlen, List.take_length] at hO; exact hO⟩
    unfold choice_Keep_b2
    simp only [dF (show ¬ (l.length : Int) < (l.length : Int) by omega), Bool.false_eq_true, if_false])
  rw [h1, Option.bind_some]
  exact ⟨out, B, rfl, h2, h3, h4⟩
/-- where it was written -/
def plc (f a b : Int) (t : GTok) : Bool := decide (t.file_ = f) && decide (t.from_ = a) && decide (t.to = b)
theorem where_ok {A : GArena} (g : GA A) {l : List GChoice_CTok} {L : CL} (f a b : Int) (hrep : Rep A l L) (hl : l.length ≤ 1000000) : ∃ c B, choice_Where A l f a b = some (c, B) ∧ GA B ∧ AExt A B ∧ Fit B c (fun s => L.any fun p => plc f a b p.1 && p.2 s) := by
  have hlen := hrep.len
  unfold choice_Where
  obtain ⟨⟨c, B⟩, h1, h2, h3, h4⟩ := loopS_ix (f := choice_Where_b2 l f a b) l.length (by omega) (fun t x => x.2.1 = (t : Int) ∧ GA x.2.2 ∧ AExt A x.2.2 ∧ Fit x.2.2 x.1 (fun s => (L.take t).any fun p => plc f a b p.1 && p.2 s)) (fun r => GA r.2 ∧ AExt A r.2 ∧ Fit r.2 r.1 (fun s => L.any fun p => plc f a b p.1 && p.2 s)) (s0 := ((0 : Int), (0 : Int), A)) ⟨rfl, g, AExt.refl A, (Fit.zero g).congr fun s => by rw [List.take_zero]; rfl⟩ (by
    rintro t ⟨c, x, B⟩ ht ⟨rfl, gB, eB, fB⟩
    replace gB : GA B := gB; replace eB : AExt A B := eB; replace fB : Fit B c (fun s => (L.take t).any fun p => plc f a b p.1 && p.2 s) := fB
    left
    obtain ⟨f1, f2⟩ := hrep.at_ ht (by omega)
    have hlt : (t : Int) < (l.length : Int) := by omega
    have kk : I64 ((t : Int) + 1) := i64_small (by omega) (by omega)
    have hc : ((andO (decide (l[t].t.file_ = f)) (some (decide (l[t].t.from_ = a)))).bind fun b_1 => andO b_1 (some (decide (l[t].t.to = b)))) = some (plc f a b l[t].t) := by
      unfold plc
      cases decide (l[t].t.file_ = f) <;> cases decide (l[t].t.from_ = a) <;> rfl
    have hany : ∀ s, (L.take (t + 1)).any (fun p => plc f a b p.1 && p.2 s) = ((L.take t).any (fun p => plc f a b p.1 && p.2 s) || (plc f a b L[t].1 && L[t].2 s)) := fun s => by
      rw [take_push L t (by omega), List.any_append]; simp
    cases hp : plc f a b l[t].t with
    | true =>
      obtain ⟨r, C, a1, a2, a3, a4⟩ := fOr gB fB (f2.ext g eB)
      refine ⟨(r, (t : Int) + 1, C), ?_, fl_nat t, a2, eB.trans a3, a4.congr fun s => ?_⟩
      · unfold choice_Where_b2
        simp only [dT hlt, if_true, ix_at ht, Option.bind_some]
        rw [← Option.bind_assoc, hc, hp, Option.bind_some, if_pos rfl, a1, Option.bind_some, chkB, pk kk]
      · rw [hany, ← f1, hp, Bool.true_and]
    | false =>
      refine ⟨(c, (t : Int) + 1, B), ?_, fl_nat t, gB, eB, fB.congr fun s => ?_⟩
      · unfold choice_Where_b2
        simp only [dT hlt, if_true, ix_at ht, Option.bind_some]
        rw [← Option.bind_assoc, hc, hp, Option.bind_some, if_neg (by decide), chkB, pk kk]
      · rw [hany, ← f1, hp, Bool.false_and, Bool.or_false]) (by
    rintro ⟨c, x, B⟩ ⟨rfl, gB, eB, fB⟩
    refine ⟨(c, B), ?_, gB, eB, by rw [hlen, List.take_length] at fB; exact fB⟩
    unfold choice_Where_b2
    simp only [dF (show ¬ (l.length : Int) < (l.length : Int) by omega), Bool.false_eq_true, if_false])
  rw [h1, Option.bind_some]
  exact ⟨c, B, rfl, h2, h3, h4⟩
theorem where_sel (L : CL) (f a b : Int) (s : Asg) : (L.any fun p => plc f a b p.1 && p.2 s) = (sel L s).any (plc f a b) := by
  induction L with
  | nil => rfl
  | cons p L ih =>
    rw [List.any_cons, ih, show p :: L = [p] ++ L from rfl, sel_append, List.any_append, sel_one]
    cases p.2 s <;> simp
end Go.Sh
