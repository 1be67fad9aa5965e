/-
  choice.table, walked.
-/
import Derived.Test.YtffgaoehhmgbjaaDoorM0
import Derived.Test.YtffgaoehhmgbjaaDoorCr
import Derived.Test.YtffgaoehhmgbjaaDoorTwx
set_option linter.unusedVariables false
set_option linter.unusedSimpArgs false
set_option maxRecDepth 20000
set_option maxHeartbeats 8000000
namespace Go.Proofs.YtffgaoehhmgbjaaDoor
open Go Go.Vc Go.Sh
def encP (M : Nat) : Option (Nat × Nat) → List AV
  | none => [.own 0 none]
  | some q => [.own M (some q)]
def rowsR (qs : List (Nat × Nat)) (T : List (List Int)) : List Res := List.zipWith (fun q row => Res.own 3 1 (some q) (row.map cI)) qs T
theorem rowsR_at {qs : List (Nat × Nat)} {T : List (List Int)} {i : Nat} {q : Nat × Nat} {row : List Int} (hq : qs[i]? = some q) (hr : T[i]? = some row) : (rowsR qs T)[i]? = some (.own 3 1 (some q) (row.map cI)) := by
  unfold rowsR; rw [List.getElem?_zipWith, hq, hr]
theorem rowsR_set : ∀ {qs : List (Nat × Nat)} {T : List (List Int)} {i : Nat} {q : Nat × Nat} {row : List Int}, qs[i]? = some q → (rowsR qs T).set i (.own 3 1 (some q) (row.map cI)) = rowsR qs (T.set i row)
  | [], T, i, q, row, h => by simp at h
  | q0 :: qs, [], i, q, row, h => by simp [rowsR]
  | q0 :: qs, t :: T, 0, q, row, h => by
    have e : q0 = q := by simpa using h
    subst e; rfl
  | q0 :: qs, t :: T, i + 1, q, row, h => by
    have := rowsR_set (qs := qs) (T := T) (i := i) (row := row) (by simpa using h)
    unfold rowsR at this ⊢
    simp only [List.zipWith_cons_cons, List.set_cons_succ, this]
theorem rowsR_push {qs : List (Nat × Nat)} {T : List (List Int)} (h : qs.length = T.length) (q : Nat × Nat) (row : List Int) : rowsR qs T ++ [.own 3 1 (some q) (row.map cI)] = rowsR (qs ++ [q]) (T ++ [row]) := by
  unfold rowsR; rw [List.zipWith_append h]; rfl
theorem toEnd {H0 : Heap} {r : Res} : ∀ {rs : List Res} {H : Heap}, Holds H0 (r :: rs) H → Holds H0 (rs ++ [r]) H
  | [], H, h => h
  | r1 :: rs, H, ⟨H1, ⟨H2, h2, h1⟩, h⟩ => by
    obtain ⟨H', k1, k2⟩ := Res.swap h1 h
    exact ⟨H', toEnd ⟨H2, h2, k1⟩, k2⟩
/-- what is owned lies beyond -/
theorem new_of {H H0 : Heap} {rs : List Res} {i g c t size : Nat} {es : List (List AV)} (h : Holds H0 rs H) (hi : rs[i]? = some (.own t size (some (g, c)) es)) : H0 g = none := by
  obtain ⟨H1, k1, k2, k3, k4⟩ := h.at_ hi
  rcases Own.inv k1 with ⟨h1, _⟩ | ⟨g', c', h1, h2, rfl⟩
  · cases h1
  · injection h1 with h1; injection h1 with h1 h3; subst h1
    cases h0 : H0 g with
    | none => rfl
    | some o => rw [k3.le g o h0] at h2; cases h2
theorem Up.matrix {H H' : Heap} {g c M : Nat} {t t2 : TypeId} {qs : List (Nat × Nat)} {T : List (List Int)} (h : H'.le H) (hg : H g = some (.row t 1 ((qs.map some).map (encP M)) c)) (hg' : H' g = none) (hlen : qs.length = T.length)
    (hr : ∀ (k : Nat) (q : Nat × Nat) (row : List Int), qs[k]? = some q → T[k]? = some row → H q.1 = some (.row t2 1 (row.map cI) q.2) ∧ H' q.1 = none ∧ row.length = M) : Up H (.own ((qs.map some).map (encP M)).length (some (g, c))) H' (.rows 1 (T.map (cL 1 cI))) := by
  refine ⟨h, fun w x hh hx => ?_⟩
  obtain rfl := hx.buf_inv
  obtain ⟨cur, h1, h2, h3, h4, h5, h6⟩ := hh g _ hg
  have hfl : ((qs.map some).map (encP M)).flatten = qs.map fun q => AV.own M (some q) := by
    clear hr hlen hg h2 h3 h4 h5 h6 hx
    induction qs with
    | nil => rfl
    | cons q qs ih => simp only [List.map_cons, List.flatten_cons, ih]; rfl
  have hfl2 : (T.map (cL 1 cI)).flatten = T.map fun row => AV.rows 1 (row.map cI) := by
    clear hr hlen hg h2 h3 h4 h5 h6 hx
    induction T with
    | nil => rfl
    | cons q qs ih => simp only [List.map_cons, List.flatten_cons, ih]; rfl
  have hll : ((qs.map some).map (encP M)).length = (T.map (cL 1 cI)).length := by simp [hlen]
  rw [hfl] at h6
  have hlu := h6.1.trans (List.length_map ..)
  have hcell : ∀ (k : Nat) (u : Value), (cur.toList.take (((qs.map some).map (encP M)).length * 1))[k]? = some u → w.cell? ((⟨g, 0, none⟩ : Addr).add k) = some u := fun k u hu => by
    rw [addr_add, Nat.zero_add, cell_of_row w g k _ _ _ h1]
    rw [List.getElem?_take] at hu
    split at hu
    · simpa using hu
    · cases hu
  rw [hll] at h3 ⊢
  refine .rows (cur.toList.take (((qs.map some).map (encP M)).length * 1)) (fun e he => by obtain ⟨q, _, rfl⟩ := List.mem_map.1 he; rfl) ?_ hcell (fun k x u hx' hu => ?_) (fun _ => ⟨(Array.getElem?_eq_some_iff.1 h1).1, fun ⟨x, hx, _⟩ => by rw [hg'] at hx; cases hx⟩) h3
  · rw [hfl2]; exact hlu.trans (hlen.trans (List.length_map ..).symm)
  · rw [hfl2, List.getElem?_map] at hx'
    obtain ⟨row, hrow, rfl⟩ := Option.map_eq_some_iff.1 hx'
    have hk : k < qs.length := by rw [hlen]; exact (List.getElem?_eq_some_iff.1 hrow).1
    obtain ⟨q, hq⟩ : ∃ q, qs[k]? = some q := ⟨_, List.getElem?_eq_getElem hk⟩
    obtain ⟨e1, e2, e3⟩ := hr k q row hq hrow
    obtain ⟨gq, cq⟩ := q
    have hv := h6.2 k (.own M (some (gq, cq))) u (by rw [List.getElem?_map, hq]; rfl) hu
    exact (Up.rows (n := M) h e1 e2 (by rw [List.length_map]; exact e3.symm)).2 w u hh hv
attribute [local irreducible] WpC WpOps WpPi WpO Exact TCall VEnds Sh.loopS
theorem own_as {n : Nat} {p : Option (Nat × Nat)} {α : Type} {f : α → List AV} {L : List α} (h : L.length = n) : AV.own n p = .own (L.map f).length p := by rw [List.length_map, h]
theorem ix_succ {α : Type} {L : List α} {i : Nat} {x : α} (h : L[i + 1]? = some x) : Sh.ix L ((i : Int) + 1) = some x := by
  rw [show (i : Int) + 1 = ((i + 1 : Nat) : Int) from rfl, Sh.ix_nat]; exact h
theorem ix_at {α : Type} {L : List α} {i : Nat} {x : α} (h : L[i]? = some x) : Sh.ix L (i : Int) = some x := by rw [Sh.ix_nat]; exact h
abbrev tEnv (l : List GChoice_CTok) (m : List GTok) (go co : Nat) : List (Nat × AV) := [(2, .rop [.rows 7 (l.map cGChoice_CTok)]), (3, .rop [.rows 6 (m.map cGTok)]), (5, .rop [.own (l.length + 1) (some (go, co))])]
/-- the rounds over the row's cells, from behind -/
def tIn (H0 : Heap) (l : List GChoice_CTok) (m : List GTok) (gT gC go co : Nat) (qs : List (Nat × Nat)) (T : List (List Int)) (i : Nat) (Rf : List Int) (k : Nat) (H : Heap) : Prop :=
  ∃ R : List Int, R.length = m.length + 1 ∧ (∀ j, j ≤ m.length → R[j]? = if m.length ≤ j + k then Rf[j]? else some 0) ∧ Holds H0 (.cell gT 35 [.rows 6 (m.map cGTok)] :: .cell gC 31 [.rows 7 (l.map cGChoice_CTok)] :: .own 86 1 (some (go, co)) ((qs.map some).map (encP (m.length + 1))) :: rowsR qs (T.set i R)) H
def tOut (H0 : Heap) (l : List GChoice_CTok) (m : List GTok) (gC go co : Nat) (qs : List (Nat × Nat)) (k : Nat) (H : Heap) : Prop :=
  ∃ T : List (List Int), T.length = l.length + 1 ∧ (∀ i, i ≤ l.length → T[i]? = if l.length ≤ i + k then (tabL l m)[i]? else some (List.replicate (m.length + 1) 0)) ∧ ∃ H1, Heap.le H1 H ∧ Holds H0 (.cell gC 31 [.rows 7 (l.map cGChoice_CTok)] :: .own 86 1 (some (go, co)) ((qs.map some).map (encP (m.length + 1))) :: rowsR qs T) H1
theorem set_same_at {α : Type} {T : List α} {i : Nat} {x : α} (h : T[i]? = some x) : T.set i x = T := by
  apply List.ext_getElem?
  intro k
  rw [List.getElem?_set]
  split
  · rename_i e; subst e
    have hi := (List.getElem?_eq_some_iff.1 h).1
    rw [if_pos hi, h]
  · rfl
theorem in_step {H0 H : Heap} {a b c : Res} {qs : List (Nat × Nat)} {T : List (List Int)} {i : Nat} {q : Nat × Nat} {R R' : List Int} (hq : qs[i]? = some q) (hH : Holds H0 ((a :: b :: c :: rowsR qs (T.set i R)).set (i + 3) (.own 3 1 (some q) (R'.map cI))) H) : Holds H0 (a :: b :: c :: rowsR qs (T.set i R')) H := by
  rw [List.set_cons_succ, List.set_cons_succ, List.set_cons_succ, rowsR_set hq, List.set_set] at hH
  exact hH
theorem row_step {R Rf : List Int} {n k j : Nat} {x : Int} (hR : R.length = n + 1) (hkn : k < n) (hj : j = n - 1 - k) (h : ∀ j, j ≤ n → R[j]? = if n ≤ j + k then Rf[j]? else some 0) (hx : Rf[j]? = some x) :
    ∀ j', j' ≤ n → (R.set j x)[j']? = if n ≤ j' + (k + 1) then Rf[j']? else some 0 := by
  intro j' hj'
  rw [List.getElem?_set]
  by_cases e : j = j'
  · subst e
    rw [if_pos rfl, if_pos (by omega), if_pos (by omega), hx]
  · rw [if_neg e, h j' hj']
    by_cases e2 : n ≤ j' + k
    · rw [if_pos e2, if_pos (by omega)]
    · rw [if_neg e2, if_neg (by omega)]

theorem w_choice_table {H0 : Heap} {l : List GChoice_CTok} {m : List GTok} {r : List (List Int)} (h : choice_table l m = some r) : TCall Tryd.prog 40 [.rows 7 (l.map cGChoice_CTok), .rows 6 (m.map cGTok)] H0 (fun v H' => v = .rows 1 (r.map (cL 1 cI)) ∧ H' = H0) noE := by
  obtain ⟨hl, hm, rfl⟩ := choice_table_some h
  clear h
  refine TCall.body Tryd.func40 rfl rfl ?_
  have hH : Holds H0 [] H0 := rfl
  refine WpC.seqR ?_
  refine WpOps.consG rfl rfl (WpO.boxT rfl rfl hH fun g2 H' hH => ?_)
  refine WpOps.consG rfl rfl (WpO.boxT rfl rfl hH fun g3 H' hH => ?_)
  refine WpOps.pn 1 rfl trivial ?_
  refine WpOps.nil ?_
  refine WpC.ice (t := 2) (i := 1) hH rfl rfl (fun H' hH => ?_)
  refine WpC.ice (t := 3) (i := 0) hH rfl rfl (fun H' hH => ?_)
  refine WpC.seqR ?_
  refine WpOps.consE (v := .rows 7 (l.map cGChoice_CTok)) rfl rfl (Exact.load_rop rfl rfl rfl) ?_
  refine WpOps.pn 1 rfl trivial ?_
  refine WpOps.at 10 (len_map _ _) ?_
  refine WpOps.pn 1 rfl (show -9223372036854775808 ≤ (l.length : Int) + 1 ∧ (l.length : Int) + 1 ≤ 9223372036854775807 from ⟨by omega, by omega⟩) ?_
  refine WpOps.consG rfl rfl (WpO.makeT (encP (m.length + 1)) (z := none) (n := (l.length : Int) + 1) (b := 24) ⟨by omega, by omega, by omega⟩ rfl rfl rfl hH rfl rfl rfl rfl (show (1 : Nat) ≠ 0 by decide) fun go co H' hH => ?_)
  have en : ((l.length : Int) + 1).toNat = l.length + 1 := by omega
  rw [en] at hH
  have hH : Holds H0 [.own 86 1 (some (go, co)) ((List.replicate (l.length + 1) (none : Option (Nat × Nat))).map (encP (m.length + 1)))] H' := hH
  refine WpOps.at 12 (v := .own (l.length + 1) (some (go, co))) (by rw [en]; exact (own_as (by simp)).symm) ?_
  refine WpOps.consG rfl rfl (WpO.allocT rfl rfl hH fun g5 H' hH => ?_)
  refine WpOps.consG rfl rfl (WpO.putT (i := 0) (v := .own (l.length + 1) (some (go, co))) rfl rfl hH rfl rfl rfl rfl rfl rfl rfl fun H' hH => ?_)
  refine WpOps.nil ?_
  refine WpC.ice (t := 5) (i := 0) hH rfl rfl (fun H' hH => ?_)
  refine WpC.seq ?_
  refine WpC.seqR ?_
  refine WpOps.consE (v := .own (l.length + 1) (some (go, co))) rfl rfl (Exact.load_rop rfl rfl rfl) ?_
  refine WpOps.pn 2 rfl trivial ?_
  refine WpOps.nil ?_
  refine WpC.block ?_
  refine WpC.loop (fun n env H => ∃ (k : Nat) (qs : List (Nat × Nat)), n = l.length + 1 - k ∧ k ≤ l.length + 1 ∧ qs.length = k ∧ knows env ((14, iA ((l.length + 1 : Nat) : Int)) :: (15, iA (k : Int)) :: tEnv l m go co) ∧ Holds H0 (.own 86 1 (some (go, co)) ((qs.map some ++ List.replicate (l.length + 1 - k) (none : Option (Nat × Nat))).map (encP (m.length + 1))) :: rowsR qs (List.replicate k (List.replicate (m.length + 1) (0 : Int)))) H) _ ⟨0, [], rfl, Nat.zero_le _, rfl, ⟨rfl, rfl, rfl, rfl, rfl, trivial⟩, hH⟩ ?_
  clear hH
  rintro n env H ⟨k, qs, rfl, hk, hq, hkn, hH⟩
  rw [← hkn.eq]
  refine WpC.seqR ?_
  refine WpOps.pn 1 rfl trivial ?_
  refine WpOps.nil ?_
  refine WpC.seq ?_
  refine WpC.condB rfl (fun hb => ?_) (fun hb => ?_)
  · have hlt : k < l.length + 1 := by
      have : (k : Int) < ((l.length + 1 : Nat) : Int) := by simpa using hb
      omega
    refine WpC.skip ?_
    refine WpC.seq ?_
    refine WpC.block ?_
    refine WpC.seqR ?_
    refine WpOps.pn 2 rfl trivial ?_
    refine WpOps.nil ?_
    refine WpC.draw [.I, .I, .I, .I, .I, .E, .S, .E] [0, 1, 2, 3, 4, 5, 6, 7] (by kernel_rfl) (by kernel_rfl) ?_
    refine WpPi.consI (v := .own (l.length + 1) (some (go, co))) rfl rfl rfl rfl (fun _ => Exact.load_rop rfl rfl rfl) ?_
    refine WpPi.pn 1 rfl trivial ?_
    refine WpPi.consI (v := .rows 6 (m.map cGTok)) rfl rfl rfl rfl (fun _ => Exact.load_rop rfl rfl rfl) ?_
    refine WpPi.pn 1 rfl trivial ?_
    refine WpPi.at 21 (len_map _ _) ?_
    refine WpPi.pn 1 rfl (show -9223372036854775808 ≤ (m.length : Int) + 1 ∧ (m.length : Int) + 1 ≤ 9223372036854775807 from ⟨by omega, by omega⟩) ?_
    refine WpPi.consE rfl rfl rfl rfl (WpO.makeT cI (z := (0 : Int)) (n := (m.length : Int) + 1) (b := 8) ⟨by omega, by omega, by omega⟩ rfl rfl rfl hH rfl rfl rfl rfl (by decide) fun gr cr H' hH => ?_)
    have em : ((m.length : Int) + 1).toNat = m.length + 1 := by omega
    rw [em] at hH
    have hH : Holds H0 (.own 3 1 (some (gr, cr)) ((List.replicate (m.length + 1) (0 : Int)).map cI) :: .own 86 1 (some (go, co)) ((qs.map some ++ List.replicate (l.length + 1 - k) (none : Option (Nat × Nat))).map (encP (m.length + 1))) :: rowsR qs (List.replicate k (List.replicate (m.length + 1) (0 : Int)))) H' := hH
    refine WpPi.at 23 (v := .own (m.length + 1) (some (gr, cr))) (by rw [em]; exact (own_as (by simp)).symm) ?_
    have hix : Sh.ix (qs.map some ++ List.replicate (l.length + 1 - k) (none : Option (Nat × Nat))) (k : Int) = some none := by
      rw [Sh.ix_nat, List.getElem?_append_right (by simp [hq]), List.length_map, hq, Nat.sub_self, List.getElem?_replicate, if_pos (by omega)]
    refine WpPi.consS rfl rfl rfl rfl (Exact.ixo (size := 1) (encP (m.length + 1)) hix rfl (own_as (by simp [hq]; omega)) rfl rfl (by kernel_rfl) (by decide)) ?_
    refine WpPi.consE rfl rfl rfl rfl (WpO.setT (off := 0) (i := 1) (encP (m.length + 1)) (y' := some (gr, cr)) (v := .own (m.length + 1) (some (gr, cr))) hix hH rfl rfl rfl rfl rfl rfl rfl rfl rfl fun H' hH => ?_)
    refine WpPi.nil ?_
    refine WpC.region ?_
    refine WpOps.pn 2 rfl (show -9223372036854775808 ≤ (k : Int) + 1 ∧ (k : Int) + 1 ≤ 9223372036854775807 from ⟨by omega, by omega⟩) ?_
    refine WpOps.nil ?_
    have hH := toEnd hH
    refine ⟨l.length + 1 - (k + 1), by omega, k + 1, qs ++ [(gr, cr)], rfl, by omega, by simp [hq], ⟨rfl, rfl, rfl, rfl, rfl, trivial⟩, ?_⟩
    have e1 : (qs.map some ++ List.replicate (l.length + 1 - k) (none : Option (Nat × Nat))).set (k : Int).toNat (some (gr, cr)) = (qs ++ [(gr, cr)]).map some ++ List.replicate (l.length + 1 - (k + 1)) none := by
      rw [Int.toNat_natCast, show l.length + 1 - k = (l.length + 1 - (k + 1)) + 1 by omega, List.replicate_succ, List.set_append_right _ _ (by simp [hq])]
      simp [hq]
    have e2 := rowsR_push (qs := qs) (T := List.replicate k (List.replicate (m.length + 1) (0 : Int))) (by simp [hq]) (gr, cr) (List.replicate (m.length + 1) (0 : Int))
    have e3 : List.replicate k (List.replicate (m.length + 1) (0 : Int)) ++ [List.replicate (m.length + 1) (0 : Int)] = List.replicate (k + 1) (List.replicate (m.length + 1) (0 : Int)) := List.replicate_succ'.symm
    rw [e3] at e2
    rw [← e1, ← e2]
    exact hH
  · have hge : k = l.length + 1 := by
      have : ¬ (k : Int) < ((l.length + 1 : Nat) : Int) := by simpa using hb
      omega
    subst hge
    refine WpC.exit ?_
    rw [Nat.sub_self, List.replicate_zero, List.append_nil] at hH
    have hHs := hH
    refine WpC.seq ?_
    refine WpC.seqR ?_
    refine WpOps.consE (v := .rows 7 (l.map cGChoice_CTok)) rfl rfl (Exact.load_rop rfl rfl rfl) ?_
    refine WpOps.consG rfl rfl (WpO.callN rfl rfl rfl hH (fun H => w_backC H) fun gC H' hH => ?_)
    refine WpOps.nil ?_
    refine WpC.block ?_
    refine WpC.range (H0 := H0.set gC (.cells 31 [.rows 7 (l.map cGChoice_CTok)])) (tOut H0 l m gC go co qs) rfl rfl (by decide) (w_backC_c1 (by omega) (Heap.set_same _ _ _)) (fun args ha => by unfold backLC at ha; obtain ⟨x, _, rfl⟩ := List.mem_map.1 ha; rfl) (fun k H ⟨T, _, _, H1, hle, hH⟩ => Heap.le_trans (hH.with_ (i := 0) rfl).2 hle) ⟨_, List.length_replicate .., fun i hi => ?_, _, Heap.le_refl _, hH⟩ ?_ ?_
    · rw [List.getElem?_replicate, if_pos (by omega)]
      split
      · rename_i h1
        have : i = l.length := by omega
        subst this
        exact (tabL_last l m).symm
      · rfl
    · rintro k args HX hk ⟨T, hT, hTi, H, hle, hH⟩
      refine WpC.drop hle ?_
      have hkl : k < l.length := by have := (List.getElem?_eq_some_iff.1 hk).1; rwa [backLC_len] at this
      rw [backLC_at l k hkl] at hk
      injection hk with hk
      subst hk
      generalize cGChoice_CTok l[l.length - 1 - k] = tk
      obtain ⟨i, hi⟩ : ∃ i, i = l.length - 1 - k := ⟨_, rfl⟩
      rw [← hi]
      have hil : i < l.length := by omega
      obtain ⟨b, hb⟩ : ∃ b, (tabL l m)[i + 1]? = some b := ⟨_, List.getElem?_eq_getElem (by rw [tabL_len]; omega)⟩
      obtain ⟨hbl, hbv⟩ := tabL_row l m b (List.mem_of_getElem? hb)
      have hTb : T[i + 1]? = some b := by rw [hTi (i + 1) (by omega), if_pos (by omega), hb]
      have hTz : T[i]? = some (List.replicate (m.length + 1) 0) := by rw [hTi i (by omega), if_neg (by omega)]
      have hRf := tabL_at l m i hil b hb
      obtain ⟨⟨gi, ci⟩, hqi⟩ : ∃ q, qs[i]? = some q := ⟨_, List.getElem?_eq_getElem (by omega)⟩
      obtain ⟨⟨gj, cj⟩, hqj⟩ : ∃ q, qs[i + 1]? = some q := ⟨_, List.getElem?_eq_getElem (by omega)⟩
      have hoi : Sh.ix (qs.map some) (i : Int) = some (some (gi, ci)) := by rw [Sh.ix_nat, List.getElem?_map, hqi]; rfl
      have hoj : Sh.ix (qs.map some) ((i : Int) + 1) = some (some (gj, cj)) := ix_succ (by rw [List.getElem?_map, hqj]; rfl)
      have hlen1 : (qs.map some).length = l.length + 1 := by simp [hq]
      refine WpC.region ?_
      refine WpOps.consG rfl rfl (WpO.allocT rfl rfl hH fun g7 H' hH => ?_)
      refine WpOps.consG rfl rfl (WpO.putT (i := 0) (v := iA (i : Int)) rfl rfl hH rfl rfl rfl rfl rfl rfl rfl fun H' hH => ?_)
      refine WpOps.nil ?_
      refine WpC.ice (t := 7) (i := 0) hH rfl rfl (fun H' hH => ?_)
      refine WpC.block ?_
      refine WpC.seqR ?_
      refine WpOps.consE (v := .rows 6 (m.map cGTok)) rfl rfl (Exact.load_rop rfl rfl rfl) ?_
      refine WpOps.consG rfl rfl (WpO.callN rfl rfl rfl hH (fun H => w_backT H) fun gT H' hH => ?_)
      refine WpOps.nil ?_
      refine WpC.block ?_
      have hH : Holds H0 (.cell gT 35 [.rows 6 (m.map cGTok)] :: .cell gC 31 [.rows 7 (l.map cGChoice_CTok)] :: .own 86 1 (some (go, co)) ((qs.map some).map (encP (m.length + 1))) :: rowsR qs T) H' := hH
      refine WpC.range (H0 := H0.set gT (.cells 35 [.rows 6 (m.map cGTok)])) (tIn H0 l m gT gC go co qs T i (tabRow l[i].t m b)) rfl rfl (by decide) (w_backT_c1 (by omega) (Heap.set_same _ _ _)) (fun args ha => by unfold backLT at ha; obtain ⟨x, _, rfl⟩ := List.mem_map.1 ha; rfl) (fun k H ⟨R, _, _, hH⟩ => (hH.with_ (i := 0) rfl).2) ⟨List.replicate (m.length + 1) 0, List.length_replicate .., fun j hj => ?_, by rw [set_same_at hTz]; exact hH⟩ ?_ ?_
      · rw [List.getElem?_replicate, if_pos (by omega)]
        split
        · rename_i h1
          have : j = m.length := by omega
          subst this
          exact (tabRow_last _ m b).symm
        · rfl
      · rintro k2 args H hk2 ⟨R, hR, hRi, hH⟩
        have hkm : k2 < m.length := by have := (List.getElem?_eq_some_iff.1 hk2).1; rwa [backLT_len] at this
        rw [backLT_at m k2 hkm] at hk2
        injection hk2 with hk2
        subst hk2
        generalize cGTok m[m.length - 1 - k2] = tk2
        obtain ⟨j, hj⟩ : ∃ j, j = m.length - 1 - k2 := ⟨_, rfl⟩
        rw [← hj]
        have hjm : j < m.length := by omega
        obtain ⟨u, hu⟩ : ∃ u, b[j]? = some u := ⟨_, List.getElem?_eq_getElem (l := b) (by omega)⟩
        obtain ⟨v, hv⟩ : ∃ v, b[j + 1]? = some v := ⟨_, List.getElem?_eq_getElem (l := b) (by omega)⟩
        obtain ⟨w, hw⟩ : ∃ w, (tabRow l[i].t m b)[j + 1]? = some w := ⟨_, List.getElem?_eq_getElem (l := tabRow l[i].t m b) (by rw [tabRow_len]; omega)⟩
        have hx := tabRow_at l[i].t m b j hjm u v w hu hv hw
        have hvb := hbv v (List.mem_of_getElem? hv)
        have hRw : R[j + 1]? = some w := by rw [hRi (j + 1) (by omega), if_pos (by omega), hw]
        have hR0 : R[j]? = some 0 := by rw [hRi j (by omega), if_neg (by omega)]
        have hrow : (Res.cell gT 35 [.rows 6 (m.map cGTok)] :: Res.cell gC 31 [.rows 7 (l.map cGChoice_CTok)] :: Res.own 86 1 (some (go, co)) ((qs.map some).map (encP (m.length + 1))) :: rowsR qs (T.set i R))[i + 3]? = some (.own 3 1 (some (gi, ci)) (R.map cI)) := by
          rw [List.getElem?_cons_succ, List.getElem?_cons_succ, List.getElem?_cons_succ]
          exact rowsR_at hqi (by rw [List.getElem?_set, if_pos rfl, if_pos (by omega)])
        have hrow1 : (Res.cell gT 35 [.rows 6 (m.map cGTok)] :: Res.cell gC 31 [.rows 7 (l.map cGChoice_CTok)] :: Res.own 86 1 (some (go, co)) ((qs.map some).map (encP (m.length + 1))) :: rowsR qs (T.set i R))[i + 1 + 3]? = some (.own 3 1 (some (gj, cj)) (b.map cI)) := by
          rw [List.getElem?_cons_succ, List.getElem?_cons_succ, List.getElem?_cons_succ]
          exact rowsR_at hqj (by rw [List.getElem?_set, if_neg (by omega), hTb])
        refine WpC.region ?_
        refine WpOps.pn 1 rfl trivial ?_
        refine WpOps.nil ?_
        refine WpC.block ?_
        refine WpC.seq ?_
        refine WpC.seq ?_
        refine WpC.draw [.I, .I, .I, .I, .I, .I, .I, .I, .I, .I] [0, 1, 2, 3, 4, 5, 6, 7, 8, 9] (by kernel_rfl) (by kernel_rfl) ?_
        refine WpPi.consI (v := .rows 7 (l.map cGChoice_CTok)) rfl rfl rfl rfl (fun _ => Exact.load_rop rfl rfl rfl) ?_
        refine WpPi.consI (v := iA (i : Int)) rfl rfl rfl rfl (fun _ => Exact.load_rop rfl rfl rfl) ?_
        refine WpPi.consI (v := .rop (cGChoice_CTok l[i])) rfl rfl rfl rfl (fun _ => Exact.ixr cGChoice_CTok (ix_at (List.getElem?_eq_getElem hil)) rfl rfl rfl rfl (by kernel_rfl) (by decide)) ?_
        refine WpPi.pn 1 rfl trivial ?_
        refine WpPi.consI (v := .agg (cGTok l[i].t)) rfl rfl rfl rfl (fun _ => Exact.load_rop rfl rfl rfl) ?_
        refine WpPi.consI (v := .rows 6 (m.map cGTok)) rfl rfl rfl rfl (fun _ => Exact.load_rop rfl rfl rfl) ?_
        refine WpPi.pn 1 rfl trivial ?_
        refine WpPi.consI (v := .rop (cGTok m[j])) rfl rfl rfl rfl (fun _ => Exact.ixr cGTok (ix_at (List.getElem?_eq_getElem hjm)) rfl rfl rfl rfl (by kernel_rfl) (by decide)) ?_
        refine WpPi.consI (v := .agg (cGTok m[j])) rfl rfl rfl rfl (fun _ => Exact.load_rop rfl rfl rfl) ?_
        refine WpPi.consI (v := bA (decide (l[i].t = m[j]))) rfl rfl rfl rfl (fun _ => Exact.eqStruct rfl rfl rfl (eqL_GTok l[i].t m[j]) (by kernel_rfl) rfl (by kernel_rfl)) ?_
        refine WpPi.nil ?_
        refine WpC.condB rfl (fun hb => ?_) (fun hb => ?_)
        · rw [if_pos (of_decide_eq_true hb)] at hx
          refine WpC.seq ?_
          refine WpC.draw [.I, .I, .S, .S, .I, .I, .I, .I, .S, .S, .I, .I, .S, .S, .I, .S, .E] [0, 1, 2, 3, 4, 5, 6, 7, 8, 9, 10, 11, 12, 13, 14, 15, 16] (by kernel_rfl) (by kernel_rfl) ?_
          refine WpPi.consI (v := .own (l.length + 1) (some (go, co))) rfl rfl rfl rfl (fun _ => Exact.load_rop rfl rfl rfl) ?_
          refine WpPi.consI (v := iA (i : Int)) rfl rfl rfl rfl (fun _ => Exact.load_rop rfl rfl rfl) ?_
          refine WpPi.consS rfl rfl rfl rfl (Exact.ixo (size := 1) (encP (m.length + 1)) hoi rfl (own_as hlen1) rfl rfl (by kernel_rfl) (by decide)) ?_
          refine WpPi.consS (v := .own (m.length + 1) (some (gi, ci))) rfl rfl rfl rfl (Exact.ldo (off := 0) (i := 2) (encP (m.length + 1)) hoi hH rfl rfl rfl (by decide) rfl) ?_
          refine WpPi.pn 1 rfl trivial ?_
          refine WpPi.consI (v := .own (l.length + 1) (some (go, co))) rfl rfl rfl rfl (fun _ => Exact.load_rop rfl rfl rfl) ?_
          refine WpPi.consI (v := iA (i : Int)) rfl rfl rfl rfl (fun _ => Exact.load_rop rfl rfl rfl) ?_
          refine WpPi.pn 1 rfl (show -9223372036854775808 ≤ (i : Int) + 1 ∧ (i : Int) + 1 ≤ 9223372036854775807 from ⟨by omega, by omega⟩) ?_
          refine WpPi.consS rfl rfl rfl rfl (Exact.ixo (size := 1) (encP (m.length + 1)) hoj rfl (own_as hlen1) rfl rfl (by kernel_rfl) (by decide)) ?_
          refine WpPi.consS (v := .own (m.length + 1) (some (gj, cj))) rfl rfl rfl rfl (Exact.ldo (off := 0) (i := 2) (encP (m.length + 1)) hoj hH rfl rfl rfl (by decide) rfl) ?_
          refine WpPi.pn 2 rfl (show -9223372036854775808 ≤ (j : Int) + 1 ∧ (j : Int) + 1 ≤ 9223372036854775807 from ⟨by omega, by omega⟩) ?_
          refine WpPi.consS rfl rfl rfl rfl (Exact.ixo (size := 1) cI (ix_succ hv) rfl (own_as hbl) rfl rfl (by kernel_rfl) (by decide)) ?_
          refine WpPi.consS (v := iA v) rfl rfl rfl rfl (Exact.ldo (off := 0) (i := i + 1 + 3) cI (ix_succ hv) hH hrow1 rfl rfl (by decide) rfl) ?_
          refine WpPi.pn 1 rfl (show -9223372036854775808 ≤ v + 1 ∧ v + 1 ≤ 9223372036854775807 from ⟨by omega, by omega⟩) ?_
          refine WpPi.consS rfl rfl rfl rfl (Exact.ixo (size := 1) cI (ix_at hR0) rfl (own_as hR) rfl rfl (by kernel_rfl) (by decide)) ?_
          refine WpPi.consE rfl rfl rfl rfl (WpO.setT (off := 0) (i := i + 3) cI (y' := v + 1) (v := iA (v + 1)) (ix_at hR0) hH hrow rfl rfl rfl rfl rfl rfl rfl rfl fun H' hH => ?_)
          refine WpPi.nil ?_
          refine WpC.exit ?_
          rw [Int.toNat_natCast] at hH
          exact (show tIn H0 l m gT gC go co qs T i (tabRow l[i].t m b) (k2 + 1) H' from ⟨_, by rw [List.length_set]; exact hR, row_step hR hkm hj hRi hx, in_step hqi hH⟩)
        · rw [if_neg (of_decide_eq_false hb)] at hx
          refine WpC.skip ?_
          refine WpC.draw [.I, .I, .S, .S, .I, .I, .I, .I, .S, .S, .I, .S, .S, .I, .I, .S, .S, .I, .I, .S, .S, .I, .S, .E] [0, 1, 2, 3, 4, 5, 6, 7, 8, 9, 10, 11, 12, 13, 14, 15, 16, 17, 18, 19, 20, 21, 22, 23] (by kernel_rfl) (by kernel_rfl) ?_
          refine WpPi.consI (v := .own (l.length + 1) (some (go, co))) rfl rfl rfl rfl (fun _ => Exact.load_rop rfl rfl rfl) ?_
          refine WpPi.consI (v := iA (i : Int)) rfl rfl rfl rfl (fun _ => Exact.load_rop rfl rfl rfl) ?_
          refine WpPi.consS rfl rfl rfl rfl (Exact.ixo (size := 1) (encP (m.length + 1)) hoi rfl (own_as hlen1) rfl rfl (by kernel_rfl) (by decide)) ?_
          refine WpPi.consS (v := .own (m.length + 1) (some (gi, ci))) rfl rfl rfl rfl (Exact.ldo (off := 0) (i := 2) (encP (m.length + 1)) hoi hH rfl rfl rfl (by decide) rfl) ?_
          refine WpPi.pn 1 rfl trivial ?_
          refine WpPi.consI (v := .own (l.length + 1) (some (go, co))) rfl rfl rfl rfl (fun _ => Exact.load_rop rfl rfl rfl) ?_
          refine WpPi.consI (v := iA (i : Int)) rfl rfl rfl rfl (fun _ => Exact.load_rop rfl rfl rfl) ?_
          refine WpPi.pn 1 rfl (show -9223372036854775808 ≤ (i : Int) + 1 ∧ (i : Int) + 1 ≤ 9223372036854775807 from ⟨by omega, by omega⟩) ?_
          refine WpPi.consS rfl rfl rfl rfl (Exact.ixo (size := 1) (encP (m.length + 1)) hoj rfl (own_as hlen1) rfl rfl (by kernel_rfl) (by decide)) ?_
          refine WpPi.consS (v := .own (m.length + 1) (some (gj, cj))) rfl rfl rfl rfl (Exact.ldo (off := 0) (i := 2) (encP (m.length + 1)) hoj hH rfl rfl rfl (by decide) rfl) ?_
          refine WpPi.pn 1 rfl trivial ?_
          refine WpPi.consS rfl rfl rfl rfl (Exact.ixo (size := 1) cI (ix_at hu) rfl (own_as hbl) rfl rfl (by kernel_rfl) (by decide)) ?_
          refine WpPi.consS (v := iA u) rfl rfl rfl rfl (Exact.ldo (off := 0) (i := i + 1 + 3) cI (ix_at hu) hH hrow1 rfl rfl (by decide) rfl) ?_
          refine WpPi.consI (v := .own (l.length + 1) (some (go, co))) rfl rfl rfl rfl (fun _ => Exact.load_rop rfl rfl rfl) ?_
          refine WpPi.consI (v := iA (i : Int)) rfl rfl rfl rfl (fun _ => Exact.load_rop rfl rfl rfl) ?_
          refine WpPi.consS rfl rfl rfl rfl (Exact.ixo (size := 1) (encP (m.length + 1)) hoi rfl (own_as hlen1) rfl rfl (by kernel_rfl) (by decide)) ?_
          refine WpPi.consS (v := .own (m.length + 1) (some (gi, ci))) rfl rfl rfl rfl (Exact.ldo (off := 0) (i := 2) (encP (m.length + 1)) hoi hH rfl rfl rfl (by decide) rfl) ?_
          refine WpPi.pn 2 rfl (show -9223372036854775808 ≤ (j : Int) + 1 ∧ (j : Int) + 1 ≤ 9223372036854775807 from ⟨by omega, by omega⟩) ?_
          refine WpPi.consS rfl rfl rfl rfl (Exact.ixo (size := 1) cI (ix_succ hRw) rfl (own_as hR) rfl rfl (by kernel_rfl) (by decide)) ?_
          refine WpPi.consS (v := iA w) rfl rfl rfl rfl (Exact.ldo (off := 0) (i := i + 3) cI (ix_succ hRw) hH hrow rfl rfl (by decide) rfl) ?_
          refine WpPi.pn 1 rfl trivial ?_
          refine WpPi.consS rfl rfl rfl rfl (Exact.ixo (size := 1) cI (ix_at hR0) rfl (own_as hR) rfl rfl (by kernel_rfl) (by decide)) ?_
          refine WpPi.consE rfl rfl rfl rfl (WpO.setT (off := 0) (i := i + 3) cI (y' := if u < w then w else u) (v := iA (if u < w then w else u)) (ix_at hR0) hH hrow rfl rfl rfl rfl rfl rfl rfl rfl fun H' hH => ?_)
          refine WpPi.nil ?_
          rw [Int.toNat_natCast] at hH
          exact (show tIn H0 l m gT gC go co qs T i (tabRow l[i].t m b) (k2 + 1) H' from ⟨_, by rw [List.length_set]; exact hR, row_step hR hkm hj hRi hx, in_step hqi hH⟩)
      · rintro H ⟨R, hR, hRi, hH⟩
        have eR : R = tabRow l[i].t m b := by
          apply List.ext_getElem?
          intro j
          by_cases hj : j ≤ m.length
          · rw [hRi j hj, if_pos (by rw [backLT_len]; omega)]
          · rw [List.getElem?_eq_none (by omega), List.getElem?_eq_none (by rw [tabRow_len]; omega)]
        subst eR
        obtain ⟨H1, hle, hH⟩ := Holds.lose_ (i := 0) hH rfl
        refine (show tOut H0 l m gC go co qs (k + 1) H from ⟨T.set i (tabRow l[i].t m b), by rw [List.length_set]; exact hT, fun i' hi' => ?_, H1, hle, hH⟩)
        rw [List.getElem?_set]
        by_cases e : i = i'
        · subst e
          rw [if_pos rfl, if_pos (by omega), if_pos (by omega), hRf]
        · rw [if_neg e, hTi i' hi']
          by_cases e2 : l.length ≤ i' + k
          · rw [if_pos e2, if_pos (by omega)]
          · rw [if_neg e2, if_neg (by omega)]
    · rintro HX ⟨T, hT, hTi, H, hle, hH⟩
      have eT : T = tabL l m := by
        apply List.ext_getElem?
        intro i
        by_cases hi : i ≤ l.length
        · rw [hTi i hi, if_pos (by rw [backLC_len]; omega)]
        · rw [List.getElem?_eq_none (by omega), List.getElem?_eq_none (by rw [tabL_len]; omega)]
      subst eT
      refine WpC.drop hle ?_
      refine WpC.lose (i := 0) hH rfl fun H' hH => ?_
      refine WpC.seqR ?_
      refine WpOps.consE (v := .own (l.length + 1) (some (go, co))) rfl rfl (Exact.load_rop rfl rfl rfl) ?_
      refine WpOps.pn 1 rfl trivial ?_
      refine WpOps.at 4 (own_as (f := encP (m.length + 1)) (L := qs.map some) (by simp [hq])) ?_
      refine WpOps.nil ?_
      have hH : Holds H0 (.own 86 1 (some (go, co)) ((qs.map some).map (encP (m.length + 1))) :: rowsR qs (tabL l m)) H' := hH
      refine WpC.up (t := 4) (H' := H0) (Up.matrix (M := m.length + 1) (t2 := 3) (T := tabL l m) hH.le (hH.row (i := 0) rfl) (new_of (i := 0) hH rfl) (by rw [tabL_len]; exact hq) fun k q row h1 h2 => ?_) ?_
      · have hi : (Res.own 86 1 (some (go, co)) ((qs.map some).map (encP (m.length + 1))) :: rowsR qs (tabL l m))[k + 1]? = some (.own 3 1 (some (q.1, q.2)) (row.map cI)) := by
          rw [List.getElem?_cons_succ]; exact rowsR_at h1 h2
        exact ⟨hH.row hi, new_of hH hi, (tabL_row l m row (List.mem_of_getElem? h2)).1⟩
      · refine WpC.ret ?_
        exact VEnds.ret1 rfl rfl ⟨rfl, rfl⟩
end Go.Proofs.YtffgaoehhmgbjaaDoor
