/-
  ChoiceWhere, ChoiceSame in plain words. No program in sight.
-/
import Derived.Test.YtffgaoehhmgbjaaDoorM6
set_option linter.unusedVariables false
set_option linter.unusedSimpArgs false
namespace Go.Sh
open Go Go.Vc.Bdd
def wlistOf (texts : List (List UInt8)) (i : Nat) : List GTok := tokens ((i : Int).tmod 2) (texts.getD i [])
theorem in_loop (f a b : Int) (lists : List (List GTok)) (n : Nat) (hn : n < lists.length) (hs : lists[n].length ≤ 10000) : loopS (emendlaw13_ChoiceWhere_b7 f a b lists (n : Int)) (false, (0 : Int)) = some (lists[n].any (plc f a b)) := by
  obtain ⟨r, h1, h2⟩ := loopS_ix (f := emendlaw13_ChoiceWhere_b7 f a b lists (n : Int)) lists[n].length (by omega) (fun t x => x = ((lists[n].take t).any (plc f a b), (t : Int))) (fun r => r = lists[n].any (plc f a b)) (s0 := (false, (0 : Int))) (by rw [List.take_zero]; rfl) (by
    rintro t x ht rfl
    left
    have hlt : (t : Int) < (lists[n].length : Int) := by omega
    have tt : I64 ((t : Int) + 1) := i64_small (by omega) (by omega)
    refine ⟨((lists[n].take (t + 1)).any (plc f a b), (t : Int) + 1), ?_, by rw [fl_nat]⟩
    have hc : (orO ((lists[n].take t).any (plc f a b)) ((andO (decide (lists[n][t].file_ = f)) (some (decide (lists[n][t].from_ = a)))).bind fun b_3 => (andO b_3 (some (decide (lists[n][t].to = b)))).bind fun b_4 => some b_4)) = some ((lists[n].take (t + 1)).any (plc f a b)) := by
      rw [take_push _ t ht, List.any_append]
      have : ([lists[n][t]].any (plc f a b)) = plc f a b lists[n][t] := by simp
      rw [this]
      unfold plc
      cases (lists[n].take t).any (fun t => decide (t.file_ = f) && decide (t.from_ = a) && decide (t.to = b)) <;> cases decide (lists[n][t].file_ = f) <;> cases decide (lists[n][t].from_ = a) <;> cases decide (lists[n][t].to = b) <;> rfl
    unfold emendlaw13_ChoiceWhere_b7
    simp only
    rw [ix_at hn, Option.bind_some, dT hlt, if_pos rfl, Option.bind_some, ix_at ht, Option.bind_some, hc, Option.bind_some, chkB, pk tt]) (by
    rintro x rfl
    refine ⟨_, ?_, rfl⟩
    unfold emendlaw13_ChoiceWhere_b7
    simp only
    rw [ix_at hn, Option.bind_some, dF (show ¬ (lists[n].length : Int) < (lists[n].length : Int) by omega), if_neg (by decide), List.take_length])
  rw [h1, h2]
theorem where_loop {v : Nat} (hv : v ≤ 3) (f a b : Int) {lists : List (List GTok)} (hl : lists.length = 2 ^ v) (hs : ∀ l ∈ lists, l.length ≤ 100) {A : GArena} (g : GA A) (hA : A.v = v) {c : Int} {p : Asg → Bool} (hc : Fit A c p) (hp : ∀ n (hn : n < lists.length), p (asg n) = lists[n].any (plc f a b)) :
    loopS (emendlaw13_ChoiceWhere_b5 f a b lists (c, A)) ((0 : Int), A) = some (.inl ()) := by
  have h8 := pow8 hv
  obtain ⟨r, h1, h2⟩ := loopS_ix (f := emendlaw13_ChoiceWhere_b5 f a b lists (c, A)) lists.length (by omega) (fun t x => x = ((t : Int), A)) (fun r => r = .inl ()) (s0 := ((0 : Int), A)) rfl (by
    rintro t x ht rfl
    left
    have hlt : (t : Int) < (lists.length : Int) := by omega
    have tt : I64 ((t : Int) + 1) := i64_small (by omega) (by omega)
    have hlen := hs _ (List.getElem_mem ht)
    have hH := fHolds g hc (k := t) (by rw [hA]; omega)
    refine ⟨((t : Int) + 1, A), ?_, by rw [fl_nat]⟩
    unfold emendlaw13_ChoiceWhere_b5
    simp only
    rw [dT hlt, if_pos rfl, in_loop f a b lists t ht (by omega), Option.bind_some]
    unfold emendlaw13_ChoiceWhere_j6
    simp only
    rw [hH, Option.bind_some, hp t ht]
    show ((orO (!decide ((0 : Int) = 0)) (some (!(lists[t].any (plc f a b) == lists[t].any (plc f a b))))).bind fun b_5 => if b_5 = true then some (Step.done (Sum.inr false)) else chk (I64 ((t : Int) + 1)) (some (.next ((t : Int) + 1, A)))) = _
    rw [beq_self_eq_true, dT (show (0 : Int) = 0 from rfl), Bool.not_true, orO_false, Option.bind_some, if_neg (by decide), chkB, pk tt]) (by
    rintro x rfl
    refine ⟨_, ?_, rfl⟩
    unfold emendlaw13_ChoiceWhere_b5
    simp only [dF (show ¬ (lists.length : Int) < (lists.length : Int) by omega), Bool.false_eq_true, if_false])
  rw [h1, h2]
theorem choiceWhere_law (vars : Int) (texts : List (List UInt8)) (f a b : Int) : emendlaw13_ChoiceWhere vars texts f a b = some true := by
  unfold emendlaw13_ChoiceWhere
  rw [awake13, Option.bind_some]
  by_cases hv : 0 ≤ vars ∧ vars ≤ 3
  · obtain ⟨v, rfl⟩ : ∃ v : Nat, vars = (v : Int) := ⟨vars.toNat, by omega⟩
    have h3 : v ≤ 3 := by omega
    have h8 := pow8 h3
    rw [dF (show ¬ (v : Int) < 0 by omega), orO_false, dF (show ¬ (3 : Int) < (v : Int) by omega), Option.bind_some, if_neg (by decide)]
    obtain ⟨r, h1, h2⟩ := loopS_ix (f := emendlaw13_ChoiceWhere_b2 (v : Int) texts true) (2 ^ v) (by omega) (fun k x => x = ((k : Int), (List.range k).map (wlistOf texts)) ∧ ∀ i, i < k → (texts.getD i []).length ≤ 100) (fun r => r = .inr true ∨ (r = .inl ((List.range (2 ^ v)).map (wlistOf texts)) ∧ ∀ i, i < 2 ^ v → (texts.getD i []).length ≤ 100)) (s0 := ((0 : Int), ([] : List (List GTok)))) ⟨rfl, fun i hi => absurd hi (Nat.not_lt_zero _)⟩ (by
      rintro k x hk ⟨rfl, hs⟩
      have hlt : (k : Int) < shl (1 : Int) (v : Int) := by rw [shl_one v (by omega)]; omega
      have kk : I64 ((k : Int) + 1) := i64_small (by omega) (by omega)
      have hb : emendlaw13_ChoiceWhere_b2 (v : Int) texts true ((k : Int), (List.range k).map (wlistOf texts)) = emendlaw13_ChoiceWhere_j3 true (k : Int) ((List.range k).map (wlistOf texts)) (texts.getD k []) := by
        unfold emendlaw13_ChoiceWhere_b2
        simp only
        rw [chkB, pk (by omega), dT hlt, if_pos rfl]
        by_cases ht : k < texts.length
        · rw [dT (by omega), if_pos rfl, ix_at ht, Option.bind_some, List.getD_eq_getElem?_getD, List.getElem?_eq_getElem ht]; rfl
        · rw [dF (by omega), if_neg (by decide), List.getD_eq_getElem?_getD, List.getElem?_eq_none (by omega)]; rfl
      rw [hb]
      unfold emendlaw13_ChoiceWhere_j3
      by_cases hl : (texts.getD k []).length ≤ 100
      · left
        refine ⟨((k : Int) + 1, (List.range (k + 1)).map (wlistOf texts)), ?_, by rw [fl_nat], fun i hi => ?_⟩
        · rw [dF (show ¬ (100 : Int) < ((texts.getD k []).length : Int) by omega), if_neg (by decide), chkB, pk (by decide), tokens_eq _ _ (by omega), Option.bind_some, chkB, pk (by rw [List.length_map, List.length_range]; omega), chkB, pk kk, List.range_succ, List.map_append]; rfl
        · by_cases e : i = k
          · subst e; exact hl
          · exact hs i (by omega)
      · right
        exact ⟨.inr true, by rw [dT (show (100 : Int) < ((texts.getD k []).length : Int) by omega), if_pos rfl], .inl rfl⟩) (by
      rintro x ⟨rfl, hs⟩
      refine ⟨.inl ((List.range (2 ^ v)).map (wlistOf texts)), ?_, .inr ⟨rfl, hs⟩⟩
      have hlt : ¬ ((2 ^ v : Nat) : Int) < shl (1 : Int) (v : Int) := by rw [shl_one v (by omega)]; omega
      unfold emendlaw13_ChoiceWhere_b2
      simp only
      rw [chkB, pk (by omega), dF hlt, if_neg (by decide)])
    rw [h1, Option.bind_some]
    rcases h2 with rfl | ⟨rfl, h2⟩
    · rfl
    · simp only
      generalize hL : (List.range (2 ^ v)).map (wlistOf texts) = L
      have hl : L.length = 2 ^ v := by rw [← hL, List.length_map, List.length_range]
      have hs : ∀ l ∈ L, l.length ≤ 100 := fun l hl => by
        rw [← hL] at hl
        obtain ⟨i, hi, rfl⟩ := List.mem_map.1 hl
        exact Nat.le_trans (tokens_len _ _) (h2 i (List.mem_range.1 hi))
      obtain ⟨out, B, m1, m2, m3, M, m4, m5, m6⟩ := merge_new h3 L hl hs (ga_new h3) rfl
      obtain ⟨c, C, w1, w2, w3, w4⟩ := where_ok m2 f a b m4 (by omega)
      unfold emendlaw13_ChoiceWhere_j1
      rw [chkB, pk ⟨by omega, by omega⟩, Int.toNat_natCast, m1, Option.bind_some]
      simp only
      rw [w1, Option.bind_some]
      simp only
      rw [where_loop h3 f a b hl hs w2 (w3.v.trans (m3.v.trans rfl)) w4 (fun n hn => by rw [where_sel, merge_sel m5 hn]), Option.bind_some]
      rfl
  · have hc : (orO (decide (vars < 0)) (some (decide (3 < vars)))) = some true := by
      by_cases h : vars < 0
      · rw [dT h, orO_true]
      · rw [dF h, orO_false, dT (by omega)]
    rw [hc, Option.bind_some, if_pos rfl]
/-! ### lists that are all the same -/
theorem texts_loop (s : List UInt8) : loopS (emendlaw13_ChoiceSame_b2 s) ((0 : Int), ([] : List (List UInt8))) = some (List.replicate 8 s) := by
  obtain ⟨r, h1, h2⟩ := loopS_ix (f := emendlaw13_ChoiceSame_b2 s) 8 (by omega) (fun k x => x = ((k : Int), List.replicate k s)) (fun r => r = List.replicate 8 s) (s0 := ((0 : Int), ([] : List (List UInt8)))) rfl (by
    rintro k x hk rfl
    left
    have hlt : (k : Int) < 8 := by omega
    have kk : I64 ((k : Int) + 1) := i64_small (by omega) (by omega)
    refine ⟨((k : Int) + 1, List.replicate (k + 1) s), ?_, by rw [fl_nat]⟩
    unfold emendlaw13_ChoiceSame_b2
    simp only
    rw [dT hlt, if_pos rfl, chkB, pk (by rw [List.length_replicate]; omega), chkB, pk kk, List.replicate_succ']) (by
    rintro x rfl
    refine ⟨_, ?_, rfl⟩
    unfold emendlaw13_ChoiceSame_b2
    simp only
    rw [dF (show ¬ ((8 : Nat) : Int) < 8 by omega), if_neg (by decide)])
  rw [h1, h2]
theorem other_loop (many : Nat) (hm : many ≤ 20) (a : List GTok) (lists : List (List GTok)) (b : Bool) (h0 : ix lists (0 : Int) = some a) : loopS (emendlaw13_ChoiceSame_b6 (many : Int) (lists, b)) ((0 : Int), ([] : List (List GTok))) = some (List.replicate many a) := by
  obtain ⟨r, h1, h2⟩ := loopS_ix (f := emendlaw13_ChoiceSame_b6 (many : Int) (lists, b)) many (by omega) (fun k x => x = ((k : Int), List.replicate k a)) (fun r => r = List.replicate many a) (s0 := ((0 : Int), ([] : List (List GTok)))) rfl (by
    rintro k x hk rfl
    left
    have hlt : (k : Int) < (many : Int) := by omega
    have kk : I64 ((k : Int) + 1) := i64_small (by omega) (by omega)
    refine ⟨((k : Int) + 1, List.replicate (k + 1) a), ?_, by rw [fl_nat]⟩
    unfold emendlaw13_ChoiceSame_b6
    simp only
    rw [dT hlt, if_pos rfl, h0, Option.bind_some, chkB, pk (by rw [List.length_replicate]; omega), chkB, pk kk, List.replicate_succ']) (by
    rintro x rfl
    refine ⟨_, ?_, rfl⟩
    unfold emendlaw13_ChoiceSame_b6
    simp only
    rw [dF (show ¬ (many : Int) < (many : Int) by omega), if_neg (by decide)])
  rw [h1, h2]
theorem begN_same (a : List GTok) : ∀ (l : List (List GTok)), (∀ x ∈ l, x = a) → begN a l = a.length := by
  intro l h
  rcases begN_att a l with e | ⟨x, hx, e⟩
  · exact e
  · rw [e, h x hx, lcp_self]
theorem headN_same (a : List GTok) (n : Nat) : headN (List.replicate (n + 1) a) = a.length := by
  unfold headN
  rw [List.replicate_succ]
  exact begN_same a _ fun x hx => (List.mem_replicate.1 hx).2
theorem merge_bad {A : GArena} (g : GA A) (lists : List (List GTok)) (h : ¬ lists.length = 2 ^ A.v) : choice_Merge A lists = some (([], 1), A) := by
  unfold choice_Merge
  rw [show bdd_Vars A = some ((A.v : Int), A) from rfl, Option.bind_some]
  simp only
  rw [chkB, pk (by omega), shl_one A.v (by have := g.v3; omega), dF (show ¬ (lists.length : Int) = ((2 ^ A.v : Nat) : Int) by omega), Bool.not_false, if_pos rfl]
theorem rep_mem {A : GArena} : ∀ {l : List GChoice_CTok} {L : CL}, Rep A l L → ∀ o ∈ L, ∃ c, Fit A c o.2
  | [], [], _, o, ho => by cases ho
  | c :: l, p :: L, h, o, ho => by
    rcases List.mem_cons.1 ho with rfl | ho
    · exact ⟨_, h.2.1⟩
    · exact rep_mem h.2.2 o ho
theorem fit_num {A : GArena} (g : GA A) {c : Int} {p : Asg → Bool} (h : Fit A c p) (s : Asg) : p s = p (asg (numOf s A.v)) := by
  obtain ⟨n, _, h1, h2⟩ := h
  rw [← h2, ← h2]
  exact sem_dep g.wf n _ _ (fun i _ hi => (numOf_bit s A.v i hi).symm) h1
theorem sel_mem {M : CL} {s : Asg} (h : sel M s = []) : ∀ o ∈ M, o.2 s = false := by
  intro o ho
  cases hh : o.2 s with
  | false => rfl
  | true =>
    unfold sel at h
    have := List.map_eq_nil_iff.1 h
    rw [List.filter_eq_nil_iff] at this
    exact absurd hh (this o ho)
theorem mergeL_same {A : GArena} (g : GA A) {out : List GChoice_CTok} (a : List GTok) (n : Nat) (hn : n + 1 = 2 ^ A.v) (M : CL) (hrep : Rep A out (mergeL (List.replicate (n + 1) a) M)) (h : MergeR (List.replicate (n + 1) a) M) : mergeL (List.replicate (n + 1) a) M = a.map a1 := by
  have hH := headN_same a n
  have hrest : ((List.replicate (n + 1) a).map (List.drop (headN (List.replicate (n + 1) a)))).headD [] = [] := by
    rw [hH, List.replicate_succ, List.map_cons, List.headD_cons, List.drop_length]
  have hM : M = [] := by
    cases hM : M with
    | nil => rfl
    | cons o M' =>
      have ho : o ∈ M := by rw [hM]; exact List.mem_cons_self ..
      obtain ⟨s, hs⟩ := h.some_ o ho
      obtain ⟨c, hc⟩ := rep_mem hrep o (by unfold mergeL; exact List.mem_append.2 (.inr (List.mem_append.2 (.inl ho))))
      have hlt := numOf_lt s A.v
      have hon := h.on (numOf s A.v) (by rw [List.length_replicate]; omega)
      rw [List.getElem_replicate, hH, List.replicate_succ, List.headD_cons, List.take_length] at hon
      have e : a ++ [] = a ++ (sel M (asg (numOf s A.v)) ++ _) := (List.append_nil a).trans hon
      have e2 := List.append_cancel_left e
      have e3 := (List.append_eq_nil_iff.1 e2.symm).1
      have := sel_mem e3 o ho
      rw [← fit_num g hc s, hs] at this
      cases this
  unfold mergeL
  rw [hrest, hM, hH, List.replicate_succ, List.headD_cons, List.take_length]
  simp
theorem same_loop {A : GArena} (g : GA A) {out : List GChoice_CTok} {a : List GTok} (hrep : Rep A out (a.map a1)) (lists : List (List GTok)) (b : Bool) (e : Int) (h0 : ix lists (0 : Int) = some a) (ha : a.length ≤ 1000) : loopS (emendlaw13_ChoiceSame_b4 (lists, b) ((out, e), A)) (0 : Int) = some (.inl ()) := by
  have hlen := hrep.len
  rw [List.length_map] at hlen
  obtain ⟨r, h1, h2⟩ := loopS_ix (f := emendlaw13_ChoiceSame_b4 (lists, b) ((out, e), A)) out.length (by omega) (fun t x => x = (t : Int)) (fun r => r = .inl ()) (s0 := (0 : Int)) rfl (by
    rintro t x ht rfl
    left
    have hlt : (t : Int) < (out.length : Int) := by omega
    have tt : I64 ((t : Int) + 1) := i64_small (by omega) (by omega)
    obtain ⟨f1, f2⟩ := hrep.at_ ht (by rw [List.length_map]; omega)
    rw [List.getElem_map] at f1 f2
    have e1 : out[t].cond = 1 := (f2.dec1 g).2 fun s => rfl
    have e2 : out[t].t = a[t] := f1
    refine ⟨(t : Int) + 1, ?_, by rw [fl_nat]⟩
    unfold emendlaw13_ChoiceSame_b4
    simp only
    rw [dT hlt, if_pos rfl, ix_at ht, Option.bind_some, dT e1, Bool.not_true, orO_false, Option.bind_some, h0, Option.bind_some, ix_at (show t < a.length by omega), Option.bind_some, dT e2, Bool.not_true, Option.bind_some, if_neg (by decide), chkB, pk tt]) (by
    rintro x rfl
    refine ⟨_, ?_, rfl⟩
    unfold emendlaw13_ChoiceSame_b4
    simp only
    rw [dF (show ¬ (out.length : Int) < (out.length : Int) by omega), if_neg (by decide)])
  rw [h1, h2]
theorem listsL_same (v : Nat) (hv : v ≤ 3) (s : List UInt8) : listsL v (List.replicate 8 s) = List.replicate (2 ^ v) ((tokens 0 s).map zT) := by
  have h8 := pow8 hv
  refine List.eq_replicate_iff.2 ⟨listsL_len _ _, fun x hx => ?_⟩
  unfold listsL at hx
  obtain ⟨i, hi, rfl⟩ := List.mem_map.1 hx
  have := List.mem_range.1 hi
  unfold listOf
  rw [List.getD_eq_getElem?_getD, List.getElem?_replicate, if_pos (by omega)]; rfl
theorem choiceSame_law (vars : Int) (s : List UInt8) (many : Int) : emendlaw13_ChoiceSame vars s many = some true := by
  unfold emendlaw13_ChoiceSame
  rw [awake13, Option.bind_some, texts_loop, Option.bind_some]
  unfold emendlaw13_ChoiceSame_j1
  obtain ⟨r, b, h1, h2⟩ := lists_ok vars (List.replicate 8 s)
  rw [h1, Option.bind_some]
  simp only [orO_some, Option.bind_some]
  by_cases hc : ((!b || decide (many < 0)) || decide (20 < many)) = true
  · rw [if_pos hc]
  · rw [if_neg hc]
    simp only [Bool.or_eq_true, Bool.not_eq_true', decide_eq_true_eq, not_or] at hc
    obtain ⟨⟨c1, c2⟩, c3⟩ := hc
    have hb : b = true := by cases b <;> simp_all
    subst hb
    obtain ⟨v, rfl, hv, hr, hs⟩ := h2 rfl
    obtain ⟨many, rfl⟩ : ∃ n : Nat, many = (n : Int) := ⟨many.toNat, by omega⟩
    have h8 := pow8 hv
    have h1v : 1 ≤ 2 ^ v := Nat.one_le_two_pow
    obtain ⟨n, hn⟩ : ∃ n, n + 1 = 2 ^ v := ⟨2 ^ v - 1, by omega⟩
    rw [listsL_same v hv, ← hn] at hr
    generalize (tokens 0 s).map zT = a at hr
    have hl : r.length = 2 ^ v := by rw [hr, List.length_replicate, hn]
    have h0 : ix r (0 : Int) = some a := by rw [hr]; rfl
    have ha : a.length ≤ 100 := hs a (by rw [hr]; exact List.mem_replicate.2 ⟨by omega, rfl⟩)
    obtain ⟨out, B, m1, m2, m3, M, m4, m5, m6⟩ := merge_new hv r hl hs (ga_new hv) rfl
    have hBv : B.v = v := m3.v.trans rfl
    rw [hr] at m4 m5
    have hsame := mergeL_same m2 a n (by rw [hBv]; exact hn) M m4 m5
    rw [hsame] at m4
    have hol := m4.len
    rw [List.length_map] at hol
    rw [chkB, pk ⟨by omega, by omega⟩, Int.toNat_natCast, m1, Option.bind_some]
    show ((orO (!decide ((0 : Int) = 0)) ((ix r (0 : Int)).bind fun y_1 => some (!decide ((out.length : Int) = (y_1.length : Int))))).bind fun b_3 => if b_3 = true then some false else (loopS (emendlaw13_ChoiceSame_b4 (r, true) ((out, 0), B)) (0 : Int)).bind fun o_2 => (match o_2 with | (.inl w_2) => (emendlaw13_ChoiceSame_j3 (many : Int) true (r, true) ((out, 0), B)) w_2 | (.inr w_3) => some w_3)) = some true
    rw [dT (show (0 : Int) = 0 from rfl), Bool.not_true, orO_false, h0, Option.bind_some, dT (show (out.length : Int) = (a.length : Int) by omega), Bool.not_true, Option.bind_some, if_neg (by decide), same_loop m2 m4 r true 0 h0 (by omega), Option.bind_some]
    show emendlaw13_ChoiceSame_j3 (many : Int) true (r, true) ((out, 0), B) () = some true
    unfold emendlaw13_ChoiceSame_j3
    rw [other_loop many (by omega) a r true h0, Option.bind_some]
    unfold emendlaw13_ChoiceSame_j5
    show ((choice_Merge B (List.replicate many a)).bind fun r_4 => (andO true (some ((decide (r_4.1.2 = (0 : Int))) == (decide ((many : Int) = (r.length : Int)))))).bind fun b_5 => (andO b_5 ((orO (decide (r_4.1.2 = (0 : Int))) ((andO (decide (r_4.1.2 = (1 : Int))) (some (decide ((r_4.1.1.length : Int) = (0 : Int))))).bind fun b_8 => some b_8)).bind fun b_7 => some b_7)).bind fun b_6 => some b_6) = some true
    by_cases hm : many = r.length
    · obtain ⟨out2, C, p1, p2⟩ := merge_new hv (List.replicate many a) (by rw [List.length_replicate]; omega) (fun l hl => by rw [(List.mem_replicate.1 hl).2]; exact ha) m2 hBv
      rw [p1, Option.bind_some, andO_true, Option.bind_some]
      rw [dT (show (((out2, (0 : Int)), C) : (List GChoice_CTok × Int) × GArena).1.2 = 0 from rfl), dT (show (many : Int) = (r.length : Int) by omega)]
      rfl
    · rw [merge_bad m2 _ (by rw [List.length_replicate, hBv]; omega), Option.bind_some, andO_true, Option.bind_some]
      rw [dF (show ¬ (((([] : List GChoice_CTok), (1 : Int)), B) : (List GChoice_CTok × Int) × GArena).1.2 = 0 from (by decide : ¬ (1 : Int) = 0)), dF (show ¬ (many : Int) = (r.length : Int) by omega)]
      rfl
end Go.Sh
