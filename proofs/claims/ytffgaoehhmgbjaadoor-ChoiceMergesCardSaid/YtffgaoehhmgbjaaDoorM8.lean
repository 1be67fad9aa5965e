/-
  ChoiceMerges in plain words. No program in sight.
-/
import Derived.Test.YtffgaoehhmgbjaaDoorM7
set_option linter.unusedVariables false
set_option linter.unusedSimpArgs false
namespace Go.Sh
open Go Go.Vc.Bdd
theorem all_eq (lists : List (List GTok)) (hl : lists.length ≤ 8) (hs : ∀ l ∈ lists, l.length ≤ 100) : emendref13_All lists = some (((lists.map List.length).sum : Nat) : Int) := by
  unfold emendref13_All
  obtain ⟨r, h1, h2⟩ := loopS_ix (f := emendref13_All_b2 lists) lists.length (by omega) (fun k x => x = (((((lists.take k).map List.length).sum : Nat) : Int), (k : Int))) (fun r => r = (((lists.map List.length).sum : Nat) : Int)) (s0 := ((0 : Int), (0 : Int))) rfl (by
    rintro k x hk rfl
    left
    have hlt : (k : Int) < (lists.length : Int) := by omega
    have kk : I64 ((k : Int) + 1) := i64_small (by omega) (by omega)
    have h1 := hs _ (List.getElem_mem hk)
    have h2 := sum_len (lists.take k) fun r hr => hs r (List.mem_of_mem_take hr)
    rw [List.length_take] at h2
    have e : ((((lists.take (k + 1)).map List.length).sum : Nat) : Int) = ((((lists.take k).map List.length).sum : Nat) : Int) + (lists[k].length : Int) := by
      rw [take_push lists k hk, List.map_append, List.sum_append]; simp
    refine ⟨(((((lists.take (k + 1)).map List.length).sum : Nat) : Int), (k : Int) + 1), ?_, by rw [fl_nat]⟩
    unfold emendref13_All_b2
    simp only
    rw [dT hlt, if_pos rfl, ix_at hk, Option.bind_some, chkB, pk (i64_small (by omega) (by omega)), chkB, pk kk, e]) (by
    rintro x rfl
    refine ⟨_, ?_, rfl⟩
    unfold emendref13_All_b2
    simp only
    rw [dF (show ¬ (lists.length : Int) < (lists.length : Int) by omega), if_neg (by decide), List.take_length])
  rw [h1, Option.bind_some, h2]; rfl
theorem lcp_dec (a y : List GTok) (n : Nat) (hn : n < a.length) (h : n ≤ lcp a y) : (orO (decide ((y.length : Int) ≤ (n : Int))) ((ix y (n : Int)).bind fun y_4 => (ix a (n : Int)).bind fun y_6 => some (!decide (y_4 = y_6)))) = some (!decide (n < lcp a y)) := by
  have hle := lcp_le a y
  by_cases hy : n < y.length
  · rw [dF (by omega), orO_false, ix_at hy, Option.bind_some, ix_at hn, Option.bind_some]
    by_cases e : n < lcp a y
    · rw [dT e, dT (lcp_at a y n hn hy e).symm]
    · rw [dF e, dF]
      intro e2
      exact e (lcp_ge a y (n + 1) (by omega) (by omega) fun j h1 h2 hj => by
        by_cases ej : j = n
        · subst ej; exact e2.symm
        · exact lcp_at a y j h1 h2 (by omega))
  · rw [dT (by omega), orO_true, dF (by omega)]; rfl
theorem bref_in (a : List GTok) (l0 : List (List GTok)) (n : Nat) (hn : n < a.length) (hl : l0.length ≤ 8) (h : ∀ y ∈ l0, n ≤ lcp a y) : ∃ r, loopS (emendref13_Begin_b4 (a :: l0) (n : Int)) (1 : Int) = some r ∧ ((r = .inl () ∧ ∀ y ∈ l0, n < lcp a y) ∨ (r = .inr (n : Int) ∧ ∃ y ∈ l0, lcp a y ≤ n)) := by
  have i0 : ix (a :: l0) (0 : Int) = some a := rfl
  refine loopS_ix (f := emendref13_Begin_b4 (a :: l0) (n : Int)) l0.length (by omega) (fun k x => x = (k : Int) + 1 ∧ ∀ j (hj : j < l0.length), j < k → n < lcp a l0[j]) (fun r => (r = .inl () ∧ ∀ y ∈ l0, n < lcp a y) ∨ (r = .inr (n : Int) ∧ ∃ y ∈ l0, lcp a y ≤ n)) (s0 := (1 : Int)) ⟨rfl, fun j _ hj => absurd hj (Nat.not_lt_zero _)⟩ ?_ ?_
  · rintro k x hk ⟨rfl, hp⟩
    have hlt : (k : Int) + 1 < ((a :: l0).length : Int) := by rw [List.length_cons]; omega
    have kk : I64 ((k : Int) + 1 + 1) := i64_small (by omega) (by omega)
    have ixk : ix (a :: l0) ((k : Int) + 1) = some l0[k] := by rw [fl_nat, ix_nat, List.getElem?_cons_succ]; exact List.getElem?_eq_getElem hk
    have hd := lcp_dec a l0[k] n hn (h _ (List.getElem_mem hk))
    have hb : emendref13_Begin_b4 (a :: l0) (n : Int) ((k : Int) + 1) = if (!decide (n < lcp a l0[k])) = true then some (.done (.inr (n : Int))) else some (.next ((k : Int) + 1 + 1)) := by
      unfold emendref13_Begin_b4
      rw [dT hlt, if_pos rfl, ixk, Option.bind_some, Option.bind_some, i0]
      simp only [Option.bind_some]
      rw [hd, Option.bind_some, chkB, pk kk]
    by_cases e : n < lcp a l0[k]
    · left
      refine ⟨(k : Int) + 1 + 1, by rw [hb, dT e, if_neg (by decide)], by rw [fl_nat], fun j hj hjk => ?_⟩
      by_cases ej : j = k
      · subst ej; exact e
      · exact hp j hj (by omega)
    · right
      exact ⟨.inr (n : Int), by rw [hb, dF e, if_pos (by decide)], .inr ⟨rfl, _, List.getElem_mem hk, by omega⟩⟩
  · rintro x ⟨rfl, hp⟩
    refine ⟨.inl (), ?_, .inl ⟨rfl, fun y hy => ?_⟩⟩
    · unfold emendref13_Begin_b4
      rw [dF (show ¬ (l0.length : Int) + 1 < ((a :: l0).length : Int) by rw [List.length_cons]; omega), if_neg (by decide)]
    · obtain ⟨j, hj, rfl⟩ := List.mem_iff_getElem.1 hy
      exact hp j hj hj
theorem begin_ref (a : List GTok) (l0 : List (List GTok)) (hl : l0.length ≤ 8) (ha : a.length ≤ 1000) : emendref13_Begin (a :: l0) = some ((headN (a :: l0) : Nat) : Int) := by
  have hN : headN (a :: l0) = begN a l0 := rfl
  have hle := begN_le a l0
  have hmem := begN_mem a l0
  have i0 : ix (a :: l0) (0 : Int) = some a := rfl
  unfold emendref13_Begin
  obtain ⟨r, h1, h2⟩ := loopS_ix (f := emendref13_Begin_b2 (a :: l0)) (begN a l0) (by omega) (fun k x => x = (k : Int)) (fun r => r = .inl ((begN a l0 : Nat) : Int) ∨ r = .inr ((begN a l0 : Nat) : Int)) (s0 := (0 : Int)) rfl (by
    rintro k x hk rfl
    left
    have hlt : (k : Int) < (a.length : Int) := by omega
    have kk : I64 ((k : Int) + 1) := i64_small (by omega) (by omega)
    obtain ⟨r, e1, e2⟩ := bref_in a l0 k (by omega) hl fun y hy => by have := hmem y hy; omega
    rcases e2 with ⟨rfl, e2⟩ | ⟨rfl, y, hy, e2⟩
    · refine ⟨(k : Int) + 1, ?_, by rw [fl_nat]⟩
      unfold emendref13_Begin_b2
      rw [i0, Option.bind_some, dT hlt, if_pos rfl, e1, Option.bind_some]
      show emendref13_Begin_j3 (k : Int) () = _
      unfold emendref13_Begin_j3
      rw [chkB, pk kk]
    · exfalso; have := hmem y hy; omega) (by
    rintro x rfl
    by_cases hlt : begN a l0 < a.length
    · obtain ⟨r, e1, e2⟩ := bref_in a l0 (begN a l0) hlt hl hmem
      have hr : r = .inr ((begN a l0 : Nat) : Int) := by
        rcases e2 with ⟨rfl, e2⟩ | ⟨rfl, _⟩
        · exfalso
          rcases begN_att a l0 with e | ⟨y, hy, e⟩
          · omega
          · have := e2 y hy; omega
        · rfl
      subst hr
      refine ⟨.inr ((begN a l0 : Nat) : Int), ?_, .inr rfl⟩
      unfold emendref13_Begin_b2
      rw [i0, Option.bind_some, dT (show ((begN a l0 : Nat) : Int) < (a.length : Int) by omega), if_pos rfl, e1, Option.bind_some]
    · refine ⟨.inl ((begN a l0 : Nat) : Int), ?_, .inl rfl⟩
      unfold emendref13_Begin_b2
      rw [i0, Option.bind_some, dF (show ¬ ((begN a l0 : Nat) : Int) < (a.length : Int) by omega), if_neg (by decide)])
  rw [h1, Option.bind_some, hN]
  rcases h2 with rfl | rfl <;> rfl
/-- of one list, from behind: whether it goes on as the first does -/
theorem end_dec (a y : List GTok) (F n : Nat) (ha : a.length ≤ 1000) (hy : y.length ≤ 1000) (hF : F ≤ y.length) (hFa : F ≤ a.length) (hn : n ≤ lcp (a.drop F).reverse (y.drop F).reverse) (ho : n < (a.drop F).length ∨ y = a) (hn1 : n ≤ 1000) (hF1 : F ≤ 1000) :
    (orO (decide ((((y.length : Int) - 1) - (n : Int)) < (F : Int))) ((ix y (((y.length : Int) - 1) - (n : Int))).bind fun y_3 => (chk (I64 ((a.length : Int) - 1)) (chk (I64 (((a.length : Int) - 1) - (n : Int))) ((ix a (((a.length : Int) - 1) - (n : Int))).bind fun y_6 => some (!decide (y_3 = y_6))))))) = some (!decide (n < lcp (a.drop F).reverse (y.drop F).reverse)) := by
  have hle := lcp_le (a.drop F).reverse (y.drop F).reverse
  rw [List.length_reverse, List.length_reverse, List.length_drop, List.length_drop] at hle
  rw [List.length_drop] at ho
  by_cases h : F + n < y.length
  · have hna : F + n < a.length := by
      rcases ho with ho | rfl
      · omega
      · exact h
    have e1 : ((y.length : Int) - 1) - (n : Int) = ((y.length - 1 - n : Nat) : Int) := by omega
    have e2 : ((a.length : Int) - 1) - (n : Int) = ((a.length - 1 - n : Nat) : Int) := by omega
    have ry : ∀ (j : Nat) (hj : j < (y.drop F).reverse.length), (y.drop F).reverse[j] = y[y.length - 1 - j]'(by rw [List.length_reverse, List.length_drop] at hj; omega) := fun j hj => by
      rw [List.length_reverse, List.length_drop] at hj
      rw [List.getElem_reverse, List.getElem_drop]
      congr 1
      rw [List.length_drop]; omega
    have ra : ∀ (j : Nat) (hj : j < (a.drop F).reverse.length), (a.drop F).reverse[j] = a[a.length - 1 - j]'(by rw [List.length_reverse, List.length_drop] at hj; omega) := fun j hj => by
      rw [List.length_reverse, List.length_drop] at hj
      rw [List.getElem_reverse, List.getElem_drop]
      congr 1
      rw [List.length_drop]; omega
    have ly : n < (y.drop F).reverse.length := by rw [List.length_reverse, List.length_drop]; omega
    have la : n < (a.drop F).reverse.length := by rw [List.length_reverse, List.length_drop]; omega
    rw [dF (by omega), orO_false, e1, ix_at (show y.length - 1 - n < y.length by omega), Option.bind_some, chkB, pk (i64_small (by omega) (by omega)), chkB, pk (i64_small (by omega) (by omega)), e2, ix_at (show a.length - 1 - n < a.length by omega), Option.bind_some]
    by_cases e : n < lcp (a.drop F).reverse (y.drop F).reverse
    · have := lcp_at _ _ n la ly e
      rw [ry n ly, ra n la] at this
      rw [dT e, dT this.symm]
    · rw [dF e, dF]
      intro e3
      refine e (lcp_ge _ _ (n + 1) la ly fun j h1 h2 hj => ?_)
      by_cases ej : j = n
      · subst ej; rw [ry j h2, ra j h1]; exact e3.symm
      · exact lcp_at _ _ j h1 h2 (by omega)
  · rw [dT (by omega), orO_true, dF (by omega)]; rfl
def rv (F : Nat) (y : List GTok) : List GTok := (y.drop F).reverse
theorem rv_len (F : Nat) (y : List GTok) : (rv F y).length = y.length - F := by unfold rv; rw [List.length_reverse, List.length_drop]
theorem eref_in (a : List GTok) (l0 : List (List GTok)) (F n : Nat) (hl : l0.length ≤ 8) (hs : ∀ y ∈ a :: l0, y.length ≤ 1000 ∧ F ≤ y.length) (h : ∀ y ∈ a :: l0, n ≤ lcp (rv F a) (rv F y)) : ∃ r, loopS (emendref13_End_b3 (a :: l0) (F : Int) (n : Int)) (0 : Int) = some r ∧ ((r = .inl () ∧ ∀ y ∈ a :: l0, n < lcp (rv F a) (rv F y)) ∨ (r = .inr (n : Int) ∧ ∃ y ∈ a :: l0, lcp (rv F a) (rv F y) ≤ n)) := by
  obtain ⟨hsa, hFa⟩ := hs a (List.mem_cons_self ..)
  have hla := (lcp_le (rv F a) (rv F a)).1
  rw [rv_len] at hla
  have hna := h a (List.mem_cons_self ..)
  refine loopS_ix (f := emendref13_End_b3 (a :: l0) (F : Int) (n : Int)) (a :: l0).length (by rw [List.length_cons]; omega) (fun k x => x = (k : Int) ∧ ∀ j (hj : j < (a :: l0).length), j < k → n < lcp (rv F a) (rv F (a :: l0)[j])) (fun r => (r = .inl () ∧ ∀ y ∈ a :: l0, n < lcp (rv F a) (rv F y)) ∨ (r = .inr (n : Int) ∧ ∃ y ∈ a :: l0, lcp (rv F a) (rv F y) ≤ n)) (s0 := (0 : Int)) ⟨rfl, fun j _ hj => absurd hj (Nat.not_lt_zero _)⟩ ?_ ?_
  · rintro k x hk ⟨rfl, hp⟩
    have hlt : (k : Int) < ((a :: l0).length : Int) := by omega
    have hk9 : k ≤ 9 := by rw [List.length_cons] at hk; omega
    have kk : I64 ((k : Int) + 1) := i64_small (by omega) (by omega)
    have hm := List.getElem_mem hk
    obtain ⟨hsy, hFy⟩ := hs _ hm
    have ho : n < (a.drop F).length ∨ (a :: l0)[k] = a := by
      by_cases e : k = 0
      · subst e; exact .inr rfl
      · have := hp 0 (by rw [List.length_cons]; omega) (by omega)
        rw [List.getElem_cons_zero] at this
        left; rw [List.length_drop]; omega
    have ixk : ix (a :: l0) (k : Int) = some (a :: l0)[k] := ix_at hk
    generalize (a :: l0)[k] = y at hm hsy hFy ho ixk hp
    have hd : (orO (decide ((((y.length : Int) - 1) - (n : Int)) < (F : Int))) ((ix y (((y.length : Int) - 1) - (n : Int))).bind fun y_3 => (ix (a :: l0) (0 : Int)).bind fun y_4 => (ix (a :: l0) (0 : Int)).bind fun y_5 => (chk (I64 ((y_5.length : Int) - 1)) (chk (I64 (((y_5.length : Int) - 1) - (n : Int))) ((ix y_4 (((y_5.length : Int) - 1) - (n : Int))).bind fun y_6 => some (!decide (y_3 = y_6))))))) = some (!decide (n < lcp (rv F a) (rv F y))) :=
      end_dec a y F n hsa hsy hFy hFa (h y hm) ho (by omega) (by omega)
    have hb : emendref13_End_b3 (a :: l0) (F : Int) (n : Int) (k : Int) = if (!decide (n < lcp (rv F a) (rv F y))) = true then some (.done (.inr (n : Int))) else some (.next ((k : Int) + 1)) := by
      unfold emendref13_End_b3
      rw [dT hlt, if_pos rfl, ixk, Option.bind_some, chkB, pk (i64_small (by omega) (by omega)), chkB, pk (i64_small (by omega) (by omega)), Option.bind_some, hd, Option.bind_some, chkB, pk kk]
    by_cases e : n < lcp (rv F a) (rv F y)
    · left
      refine ⟨(k : Int) + 1, by rw [hb, dT e, if_neg (by decide)], by rw [fl_nat], fun j hj hjk => ?_⟩
      by_cases ej : j = k
      · subst ej
        have : ix (a :: l0) (j : Int) = some (a :: l0)[j] := ix_at hj
        rw [ixk] at this
        injection this with this
        rw [← this]; exact e
      · exact hp j hj (by omega)
    · right
      exact ⟨.inr (n : Int), by rw [hb, dF e, if_pos (by decide)], .inr ⟨rfl, y, hm, by omega⟩⟩
  · rintro x ⟨rfl, hp⟩
    refine ⟨.inl (), ?_, .inl ⟨rfl, fun y hy => ?_⟩⟩
    · unfold emendref13_End_b3
      rw [dF (show ¬ ((a :: l0).length : Int) < ((a :: l0).length : Int) by omega), if_neg (by decide)]
    · obtain ⟨j, hj, rfl⟩ := List.mem_iff_getElem.1 hy
      exact hp j hj hj
theorem end_ref (a : List GTok) (l0 : List (List GTok)) (hl : l0.length ≤ 8) (hs : ∀ y ∈ a :: l0, y.length ≤ 1000) : emendref13_End (a :: l0) ((headN (a :: l0) : Nat) : Int) = some ((tailN (a :: l0) : Nat) : Int) := by
  have hin := headN_le (a :: l0)
  generalize hF : headN (a :: l0) = F at hin
  have hT : tailN (a :: l0) = begN (rv F a) (l0.map (rv F)) := by
    unfold tailN
    rw [hF]
    unfold headN
    rw [List.map_cons, List.map_cons, List.headD_cons, List.drop_succ_cons, List.drop_zero, List.map_map]; rfl
  have hle := begN_le (rv F a) (l0.map (rv F))
  have hmem : ∀ y ∈ a :: l0, begN (rv F a) (l0.map (rv F)) ≤ lcp (rv F a) (rv F y) := fun y hy => by
    rcases List.mem_cons.1 hy with rfl | hy
    · rw [lcp_self]; exact hle
    · exact begN_mem _ _ _ (List.mem_map_of_mem hy)
  have hsF : ∀ y ∈ a :: l0, y.length ≤ 1000 ∧ F ≤ y.length := fun y hy => ⟨hs y hy, (hin y hy).1⟩
  have hla := rv_len F a
  have hsa := hs a (List.mem_cons_self ..)
  rw [hT]
  generalize hTT : begN (rv F a) (l0.map (rv F)) = T at hle hmem
  unfold emendref13_End
  obtain ⟨r, h1, h2⟩ := loopS_ix (f := emendref13_End_b1 (a :: l0) (F : Int)) T (by omega) (fun k x => x = (k : Int)) (fun r => r = (T : Int)) (s0 := (0 : Int)) rfl (by
    rintro k x hk rfl
    left
    have kk : I64 ((k : Int) + 1) := i64_small (by omega) (by omega)
    obtain ⟨r, e1, e2⟩ := eref_in a l0 F k hl hsF fun y hy => by have := hmem y hy; omega
    rcases e2 with ⟨rfl, e2⟩ | ⟨rfl, y, hy, e2⟩
    · refine ⟨(k : Int) + 1, ?_, by rw [fl_nat]⟩
      unfold emendref13_End_b1
      rw [e1, Option.bind_some]
      show emendref13_End_j2 (k : Int) () = _
      unfold emendref13_End_j2
      rw [chkB, pk kk]
    · exfalso; have := hmem y hy; omega) (by
    rintro x rfl
    obtain ⟨r, e1, e2⟩ := eref_in a l0 F T hl hsF hmem
    have hr : r = .inr (T : Int) := by
      rcases e2 with ⟨rfl, e2⟩ | ⟨rfl, _⟩
      · exfalso
        rcases begN_att (rv F a) (l0.map (rv F)) with e | ⟨y, hy, e⟩
        · have := e2 a (List.mem_cons_self ..); rw [lcp_self] at this; omega
        · obtain ⟨z, hz, rfl⟩ := List.mem_map.1 hy
          have := e2 z (List.mem_cons_of_mem _ hz); omega
      · rfl
    subst hr
    refine ⟨(T : Int), ?_, rfl⟩
    unfold emendref13_End_b1
    rw [e1, Option.bind_some])
  rw [h1, Option.bind_some, h2]
theorem sets_loop {v : Nat} (hv : v ≤ 3) {lists : List (List GTok)} (hl : lists.length = 2 ^ v) (hs : ∀ l ∈ lists, l.length ≤ 100) {b : Bool} {A : GArena} (g : GA A) (hA : A.v = v) {out : List GChoice_CTok} {O : CL} (hrep : Rep A out O) (ho : out.length ≤ 10000) (e : Int) (hsel : ∀ n (hn : n < lists.length), sel O (asg n) = lists[n]) :
    loopS (emendlaw13_ChoiceMerges_b2 (lists, b) ((out, e), A)) ((0 : Int), A) = some (.inl ()) := by
  have h8 := pow8 hv
  obtain ⟨r, h1, h2⟩ := loopS_ix (f := emendlaw13_ChoiceMerges_b2 (lists, b) ((out, e), A)) lists.length (by omega) (fun t x => x = ((t : Int), A)) (fun r => r = .inl ()) (s0 := ((0 : Int), A)) rfl (by
    rintro t x ht rfl
    left
    have hlt : (t : Int) < (lists.length : Int) := by omega
    have tt : I64 ((t : Int) + 1) := i64_small (by omega) (by omega)
    have hS := select_ok g hrep (by omega) (k := t) (by rw [hA]; omega)
    have hlen := hs _ (List.getElem_mem ht)
    refine ⟨((t : Int) + 1, A), ?_, by rw [fl_nat]⟩
    unfold emendlaw13_ChoiceMerges_b2
    simp only
    rw [dT hlt, if_pos rfl, hS, Option.bind_some]
    simp only
    rw [ix_at ht, Option.bind_some, hsel t ht, rsame_eq _ _ (by omega), Option.bind_some, dT rfl, Bool.not_true, if_neg (by decide), chkB, pk tt]) (by
    rintro x rfl
    refine ⟨_, ?_, rfl⟩
    unfold emendlaw13_ChoiceMerges_b2
    simp only
    rw [dF (show ¬ (lists.length : Int) < (lists.length : Int) by omega), if_neg (by decide)])
  rw [h1, h2]
theorem ends_loop {A : GArena} (g : GA A) {out : List GChoice_CTok} {a : List GTok} {lists : List (List GTok)} {b : Bool} {e : Int} (F T : Nat) {O : CL} (hrep : Rep A out O) (h0 : ix lists (0 : Int) = some a) (ho : out.length ≤ 10000) (hFT : F + T ≤ out.length)
    (hne : ∀ o ∈ O, ∃ s, o.2 s = true) (hf : ∀ i (hi : i < O.length), i < F → ∃ ha : i < a.length, O[i] = a1 a[i]) (hlst : ∀ i (hi : i < O.length), out.length - T ≤ i → ∃ t, O[i] = a1 t) :
    loopS (emendlaw13_ChoiceMerges_b4 (lists, b) ((out, e), A) (F : Int) (T : Int)) (0 : Int) = some (.inl ()) := by
  have hlen := hrep.len
  obtain ⟨r, h1, h2⟩ := loopS_ix (f := emendlaw13_ChoiceMerges_b4 (lists, b) ((out, e), A) (F : Int) (T : Int)) out.length (by omega) (fun t x => x = (t : Int)) (fun r => r = .inl ()) (s0 := (0 : Int)) rfl (by
    rintro i x hi rfl
    left
    have hiO : i < O.length := by omega
    have hlt : (i : Int) < (out.length : Int) := by omega
    have tt : I64 ((i : Int) + 1) := i64_small (by omega) (by omega)
    obtain ⟨f1, f2⟩ := hrep.at_ hi hiO
    have hc0 : ¬ out[i].cond = 0 := fun e => by
      obtain ⟨s, hs⟩ := hne _ (List.getElem_mem hiO)
      rw [(f2.dec0 g).1 e s] at hs; cases hs
    have hone : ∀ t, O[i] = a1 t → out[i].cond = 1 := fun t e => (f2.dec1 g).2 fun s => by rw [e]; rfl
    refine ⟨(i : Int) + 1, ?_, by rw [fl_nat]⟩
    unfold emendlaw13_ChoiceMerges_b4
    simp only
    rw [dT hlt, if_pos rfl, ix_at hi, Option.bind_some, dF hc0, orO_false]
    by_cases hF : i < F
    · obtain ⟨ha, e1⟩ := hf i hiO hF
      have e2 : out[i].t = a[i] := by rw [f1, e1]; rfl
      rw [dT (show (i : Int) < (F : Int) by omega), orO_true, Option.bind_some, andO_true, Option.bind_some, dT (hone _ e1), Bool.not_true, Option.bind_some, Option.bind_some, orO_false, andO_true, Option.bind_some, h0, Option.bind_some, ix_at ha, Option.bind_some, dT e2, Bool.not_true, Option.bind_some, Option.bind_some, if_neg (by decide), chkB, pk tt]
    · rw [dF (show ¬ (i : Int) < (F : Int) by omega), orO_false, chkB, pk (i64_small (by omega) (by omega)), Option.bind_some]
      by_cases hT : out.length - T ≤ i
      · obtain ⟨t, e1⟩ := hlst i hiO hT
        rw [dT (show (out.length : Int) - (T : Int) ≤ (i : Int) by omega), andO_true, Option.bind_some, dT (hone _ e1), Bool.not_true, Option.bind_some, Option.bind_some, orO_false, andO_false, Option.bind_some, Option.bind_some, if_neg (by decide), chkB, pk tt]
      · rw [dF (show ¬ (out.length : Int) - (T : Int) ≤ (i : Int) by omega), andO_false, Option.bind_some, Option.bind_some, orO_false, andO_false, Option.bind_some, Option.bind_some, if_neg (by decide), chkB, pk tt]) (by
    rintro x rfl
    refine ⟨_, ?_, rfl⟩
    unfold emendlaw13_ChoiceMerges_b4
    simp only
    rw [dF (show ¬ (out.length : Int) < (out.length : Int) by omega), if_neg (by decide)])
  rw [h1, h2]
theorem choiceMerges_law (vars : Int) (texts : List (List UInt8)) : emendlaw13_ChoiceMerges vars texts = some true := by
  unfold emendlaw13_ChoiceMerges
  rw [awake13, Option.bind_some]
  obtain ⟨r, b, h1, h2⟩ := lists_ok vars texts
  rw [h1, Option.bind_some]
  cases b with
  | false => rfl
  | true =>
    obtain ⟨v, rfl, hv, hr, hs⟩ := h2 rfl
    have hl : r.length = 2 ^ v := by rw [hr, listsL_len]
    have h8 := pow8 hv
    have h1v : 1 ≤ 2 ^ v := Nat.one_le_two_pow
    obtain ⟨out, B, m1, m2, m3, M, m4, m5, m6⟩ := merge_new hv r hl hs (ga_new hv) rfl
    have hBv : B.v = v := m3.v.trans rfl
    have hol := m4.len
    obtain ⟨a, l0, hal⟩ : ∃ a l0, r = a :: l0 := by
      cases r with
      | nil => simp at hl; omega
      | cons a l0 => exact ⟨a, l0, rfl⟩
    have h0 : ix r (0 : Int) = some a := by rw [hal]; rfl
    have hl0 : l0.length ≤ 8 := by rw [hal, List.length_cons] at hl; omega
    have ha := hs a (by rw [hal]; exact List.mem_cons_self ..)
    have hin := headN_le r a (by rw [hal]; exact List.mem_cons_self ..)
    have htl := tailN_le r (a.drop (headN r)) (by rw [hal]; exact List.mem_cons_self ..)
    have hd : r.headD [] = a := by rw [hal]; rfl
    have hd2 : (r.map (List.drop (headN r))).headD [] = a.drop (headN r) := by rw [hal]; rfl
    have hml := m5.len
    have hmL : mergeL r M = (a.take (headN r)).map a1 ++ (M ++ ((a.drop (headN r)).drop ((a.drop (headN r)).length - tailN r)).map a1) := by unfold mergeL; rw [hd, hd2]
    have hHl : ((a.take (headN r)).map a1).length = headN r := by rw [List.length_map, List.length_take]; omega
    have hTl : (((a.drop (headN r)).drop ((a.drop (headN r)).length - tailN r)).map a1).length = tailN r := by rw [List.length_map, List.length_drop]; have := htl.1; omega
    have hlen : (mergeL r M).length = headN r + (M.length + tailN r) := by rw [hmL, List.length_append, List.length_append, hHl, hTl]
    have hbeg : emendref13_Begin r = some ((headN r : Nat) : Int) := by rw [hal]; exact begin_ref a l0 hl0 (by omega)
    have hend : emendref13_End r ((headN r : Nat) : Int) = some ((tailN r : Nat) : Int) := by rw [hal]; exact end_ref a l0 hl0 fun y hy => by have := hs y (by rw [hal]; exact hy); omega
    have hsum := sum_len r hs
    show (if (!true) = true then some true else chk (0 ≤ (v : Int) ∧ (v : Int) ≤ 8) ((choice_Merge (newG ((v : Int)).toNat) r).bind fun r_3 => (orO (!decide (r_3.1.2 = (0 : Int))) ((emendref13_All r).bind fun r_4 => some (decide (r_4 < (r_3.1.1.length : Int))))).bind fun b_1 => if b_1 = true then some false else (loopS (emendlaw13_ChoiceMerges_b2 (r, true) r_3) ((0 : Int), r_3.2)).bind fun o_1 => (match o_1 with | (.inl w_1) => (emendlaw13_ChoiceMerges_j1 true (r, true) r_3) w_1 | (.inr w_2) => some w_2))) = some true
    rw [if_neg (by decide), chkB, pk ⟨by omega, by omega⟩, Int.toNat_natCast, m1, Option.bind_some]
    show ((orO (!decide ((0 : Int) = 0)) ((emendref13_All r).bind fun r_4 => some (decide (r_4 < (out.length : Int))))).bind fun b_1 => if b_1 = true then some false else (loopS (emendlaw13_ChoiceMerges_b2 (r, true) ((out, 0), B)) ((0 : Int), B)).bind fun o_1 => (match o_1 with | (.inl w_1) => (emendlaw13_ChoiceMerges_j1 true (r, true) ((out, 0), B)) w_1 | (.inr w_2) => some w_2)) = some true
    rw [dT (show (0 : Int) = 0 from rfl), Bool.not_true, orO_false, all_eq r (by omega) hs, Option.bind_some, dF (show ¬ (((r.map List.length).sum : Nat) : Int) < (out.length : Int) by omega), Option.bind_some, if_neg (by decide),
      sets_loop hv hl hs m2 hBv m4 m6 0 (fun n hn => merge_sel m5 hn), Option.bind_some]
    show emendlaw13_ChoiceMerges_j1 true (r, true) ((out, 0), B) () = some true
    unfold emendlaw13_ChoiceMerges_j1
    show ((emendref13_Begin r).bind fun r_7 => (emendref13_End r r_7).bind fun r_8 => chk (I64 (r_7 + r_8)) (if (decide ((out.length : Int) < (r_7 + r_8))) = true then some false else (loopS (emendlaw13_ChoiceMerges_b4 (r, true) ((out, 0), B) r_7 r_8) (0 : Int)).bind fun o_2 => (match o_2 with | (.inl w_3) => (emendlaw13_ChoiceMerges_j3 true) w_3 | (.inr w_4) => some w_4))) = some true
    rw [hbeg, Option.bind_some, hend, Option.bind_some, chkB, pk (i64_small (by omega) (by omega)), dF (show ¬ (out.length : Int) < ((headN r : Nat) : Int) + ((tailN r : Nat) : Int) by omega), if_neg (by decide),
      ends_loop m2 (headN r) (tailN r) m4 h0 m6 (by omega) (fun o ho => by
        rw [hmL] at ho
        rcases List.mem_append.1 ho with ho | ho
        · obtain ⟨t, _, rfl⟩ := List.mem_map.1 ho; exact ⟨asg 0, rfl⟩
        · rcases List.mem_append.1 ho with ho | ho
          · exact m5.some_ o ho
          · obtain ⟨t, _, rfl⟩ := List.mem_map.1 ho; exact ⟨asg 0, rfl⟩) (fun i hi hF => by
        refine ⟨by omega, ?_⟩
        have : (mergeL r M)[i]? = some (a1 (a[i]'(by omega))) := by
          rw [hmL, List.getElem?_append_left (by omega), List.getElem?_map, List.getElem?_take, if_pos hF, List.getElem?_eq_getElem (show i < a.length by omega)]; rfl
        exact (List.getElem?_eq_some_iff.1 this).2) (fun i hi hT => by
        have e1 : (mergeL r M)[i]? = ((M ++ ((a.drop (headN r)).drop ((a.drop (headN r)).length - tailN r)).map a1))[i - headN r]? := by rw [hmL, List.getElem?_append_right (by omega), hHl]
        rw [List.getElem?_append_right (by omega), List.getElem?_map] at e1
        rw [List.getElem?_eq_getElem hi] at e1
        obtain ⟨t, _, ht⟩ := Option.map_eq_some_iff.1 e1.symm
        exact ⟨t, ht.symm⟩), Option.bind_some]
    rfl
end Go.Sh
