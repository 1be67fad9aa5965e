/-
  The law MacroParams. No program in sight.
-/
import Derived.Test.YtghnfeflknfclaaDoorG9
set_option linter.unusedVariables false
set_option linter.unusedSimpArgs false
namespace Go.Sh
open Go
theorem twice_loop (names : List (List UInt8)) (i : Nat) (hi : i < names.length) (tw : Bool) (hl : names.length ≤ 2000000) : loopS (emendlaw06_MacroParams_b4 names i) (tw, 0) = some (tw || decide (names[i] ∈ names.take i)) := by
  obtain ⟨r, g1, g2⟩ := loopS_ix (f := emendlaw06_MacroParams_b4 names i) i (by omega) (fun k x => x = ((tw || decide (names[i] ∈ names.take k)), (k : Int))) (fun r => r = (tw || decide (names[i] ∈ names.take i))) (s0 := (tw, (0 : Int))) (by simp) (by
    rintro k x hk rfl
    left
    unfold emendlaw06_MacroParams_b4
    simp only []
    have hk2 : k < names.length := by omega
    rw [if_pos (decide_eq_true (by omega)), ix_at hk2, Option.bind_some, ix_at hi, Option.bind_some, orO_some, Option.bind_some, chkT (by omega)]
    refine ⟨_, rfl, ?_⟩
    rw [List.take_add_one, List.getElem?_eq_getElem hk2]
    refine Prod.ext ?_ (by push_cast; rfl)
    simp only [List.mem_append, Option.mem_toList, Option.mem_def, Option.some.injEq]
    rw [Bool.or_assoc]
    congr 1
    rw [Bool.decide_or]) (by
    rintro x rfl
    refine ⟨_, ?_, rfl⟩
    unfold emendlaw06_MacroParams_b4
    exact if_neg (by simp))
  rw [g1, g2]
theorem flat_take (names : List (List UInt8)) (k : Nat) : (names.take k).flatten.length ≤ names.flatten.length := by
  conv => rhs; rw [← List.take_append_drop k names, List.flatten_append, List.length_append]
  omega
theorem flat_get (names : List (List UInt8)) (k : Nat) (hk : k < names.length) : names[k].length ≤ names.flatten.length := by
  conv => rhs; rw [← List.take_append_drop k names, List.drop_eq_getElem_cons hk, List.flatten_append, List.flatten_cons, List.length_append, List.length_append]
  omega
theorem nodup_take (names : List (List UInt8)) (k : Nat) (hk : k < names.length) : (names.take (k + 1)).Nodup ↔ (names.take k).Nodup ∧ names[k] ∉ names.take k := by
  rw [List.take_add_one, List.getElem?_eq_getElem hk]
  show (names.take k ++ [names[k]]).Nodup ↔ _
  rw [List.nodup_append]
  simp only [List.nodup_cons, List.not_mem_nil, not_false_eq_true, List.nodup_nil, and_self, true_and, List.mem_singleton, forall_eq]
  constructor
  · rintro ⟨h1, h2⟩; exact ⟨h1, fun h => h2 _ h rfl⟩
  · rintro ⟨h1, h2⟩; exact ⟨h1, fun a ha e => h2 (e ▸ ha)⟩
theorem names_loop6 (names : List (List UInt8)) (hl : names.length ≤ 30) (hf : names.flatten.length ≤ 1500000) : ∃ r, loopS (emendlaw06_MacroParams_b2 names true) ([70, 40], false, 0) = some r ∧ (r = .inr true ∨ (r = .inl ([70, 40] ++ Lib.join names [44], !decide names.Nodup) ∧ ∀ x ∈ names, Word x ∧ x ≠ vaN)) := by
  obtain ⟨r, g1, g2⟩ := loopS_ix (f := emendlaw06_MacroParams_b2 names true) names.length (by omega) (fun k x => x = ([70, 40] ++ Lib.join (names.take k) [44], !decide (names.take k).Nodup, (k : Int)) ∧ ∀ x ∈ names.take k, Word x ∧ x ≠ vaN) (fun r => r = .inr true ∨ (r = .inl ([70, 40] ++ Lib.join names [44], !decide names.Nodup) ∧ ∀ x ∈ names, Word x ∧ x ≠ vaN)) (s0 := (([70, 40] : List UInt8), false, (0 : Int))) ⟨by simp [Lib.join_nil], by simp⟩ (by
    rintro k x hk ⟨rfl, hw⟩
    have hg := flat_get names k hk
    unfold emendlaw06_MacroParams_b2
    simp only []
    rw [if_pos (decide_eq_true (by omega)), ix_at hk, Option.bind_some, pone_eq _ (by omega), Option.bind_some, orO_some, Option.bind_some, Option.bind_some, orO_some, Option.bind_some]
    by_cases hb : (oneOf names[k]).2 = true ∧ (oneOf names[k]).1.kind = 1 ∧ names[k] ≠ vaN
    · left
      obtain ⟨b1, b2, b3⟩ := hb
      have hc : ((!(oneOf names[k]).2 || !decide ((oneOf names[k]).1.kind = 1)) || decide (names[k] = ([95, 95, 86, 65, 95, 65, 82, 71, 83, 95, 95] : List UInt8))) = false := by
        rw [b1, decide_eq_true b2, show decide (names[k] = ([95, 95, 86, 65, 95, 65, 82, 71, 83, 95, 95] : List UInt8)) = false from decide_eq_false b3]; rfl
      rw [if_neg (by rw [hc]; simp), twice_loop names k hk _ (by omega), Option.bind_some]
      have hj := join_len [44] (names.take k)
      have hft := flat_take names k
      have htl : (names.take k).length ≤ 30 := by rw [List.length_take]; omega
      simp only [List.length_cons, List.length_nil] at hj
      have hj2 : (Lib.join (names.take k) [44]).length ≤ 1500030 := by omega
      refine ⟨([70, 40] ++ Lib.join (names.take (k + 1)) [44], !decide (names.take (k + 1)).Nodup, ((k + 1 : Nat) : Int)), ?_, rfl, ?_⟩
      · have htw : ((!decide (names.take k).Nodup) || decide (names[k] ∈ names.take k)) = !decide (names.take (k + 1)).Nodup := by
          by_cases q1 : (names.take k).Nodup
          · by_cases q2 : names[k] ∈ names.take k
            · rw [decide_eq_true q1, decide_eq_true q2, decide_eq_false (fun h => ((nodup_take names k hk).1 h).2 q2)]; rfl
            · rw [decide_eq_true q1, decide_eq_false q2, decide_eq_true ((nodup_take names k hk).2 ⟨q1, q2⟩)]; rfl
          · rw [decide_eq_false q1, decide_eq_false (fun h => q1 ((nodup_take names k hk).1 h).1)]; rfl
        rw [htw]
        unfold emendlaw06_MacroParams_j3
        rw [List.take_add_one, List.getElem?_eq_getElem hk, show (some names[k]).toList = [names[k]] from rfl, join_snoc]
        by_cases h0 : k = 0
        · subst h0
          rw [if_neg (by simp), if_pos (by rfl)]
          unfold emendlaw06_MacroParams_j5
          rw [ix_at hk, Option.bind_some, chkT (by simp only [List.length_append, List.length_cons, List.length_nil]; omega), chkT (by omega), List.take_zero, Lib.join_nil, List.append_nil]
          push_cast; rfl
        · have hne : ¬ names.take k = [] := fun e => by
            have := congrArg List.length e
            rw [List.length_take, List.length_nil] at this; omega
          rw [if_pos (decide_eq_true (by omega)), chkT (by simp only [List.length_append, List.length_cons, List.length_nil]; omega), if_neg hne]
          unfold emendlaw06_MacroParams_j5
          rw [ix_at hk, Option.bind_some, chkT (by simp only [List.length_append, List.length_cons, List.length_nil]; omega), chkT (by omega)]
          have : ∀ a b c d : List UInt8, (((a ++ b) ++ c) ++ d) = (a ++ (b ++ (c ++ d))) := by intros; simp
          rw [this]
          push_cast; rfl
      · intro x hx
        rw [List.take_add_one, List.getElem?_eq_getElem hk] at hx
        rcases List.mem_append.1 hx with hx | hx
        · exact hw x hx
        · obtain rfl : x = names[k] := by simpa using hx
          exact ⟨one_word b1 b2, b3⟩
    · right
      have hc : ((!(oneOf names[k]).2 || !decide ((oneOf names[k]).1.kind = 1)) || decide (names[k] = ([95, 95, 86, 65, 95, 65, 82, 71, 83, 95, 95] : List UInt8))) = true := by
        by_cases b1 : (oneOf names[k]).2 = true
        · by_cases b2 : (oneOf names[k]).1.kind = 1
          · have b3 : names[k] = vaN := Classical.not_not.1 fun q => hb ⟨b1, b2, q⟩
            rw [show decide (names[k] = ([95, 95, 86, 65, 95, 65, 82, 71, 83, 95, 95] : List UInt8)) = true from decide_eq_true b3]; simp
          · rw [decide_eq_false b2]; simp
        · rw [Bool.not_eq_true] at b1
          rw [b1]; rfl
      exact ⟨_, if_pos hc, .inl rfl⟩) (by
    rintro x ⟨rfl, hw⟩
    rw [List.take_length] at hw ⊢
    refine ⟨_, ?_, .inr ⟨rfl, hw⟩⟩
    unfold emendlaw06_MacroParams_b2
    exact if_neg (by simp))
  exact ⟨r, g1, g2⟩
/-- a name's place among names that are unlike -/
theorem idxL_at (names : List (List UInt8)) (hn : names.Nodup) : ∀ k (hk : k < names.length), idxL names[k] names 0 = (k : Int) := by
  have key : ∀ (l : List (List UInt8)), l.Nodup → ∀ (k : Nat) (hk : k < l.length) (i : Int), idxL l[k] l i = i + (k : Int) := by
    intro l
    induction l with
    | nil => intro _ k hk; simp at hk
    | cons y r ih =>
      intro hn k hk i
      obtain ⟨h1, h2⟩ := List.nodup_cons.1 hn
      cases k with
      | zero => show (if y = y then i else _) = _; rw [if_pos rfl]; simp
      | succ k =>
        have hk' : k < r.length := by simpa using hk
        show (if r[k] = y then i else idxL r[k] r (i + 1)) = _
        rw [if_neg (fun (e : r[k] = y) => h1 (by rw [← e]; exact List.getElem_mem hk')), ih h2 k hk' (i + 1)]
        push_cast; omega
  intro k hk
  have := key names hn k hk 0
  rw [this]; omega
theorem idxL_no (n : List UInt8) (names : List (List UInt8)) (h : n ∉ names) : idxL n names 0 = -1 := by
  have key : ∀ (l : List (List UInt8)) (i : Int), n ∉ l → idxL n l i = -1 := by
    intro l
    induction l with
    | nil => intro i _; rfl
    | cons y r ih =>
      intro i hn
      show (if n = y then i else idxL n r (i + 1)) = -1
      rw [if_neg (fun e => hn (by simp [e])), ih _ (fun h => hn (by simp [h]))]
  exact key names 0 h
theorem macroParams_law (names : List (List UInt8)) (v : Bool) (hb : names.flatten.length ≤ 1500000) : emendlaw06_MacroParams names v = some true := by
  unfold emendlaw06_MacroParams
  rw [awake6, Option.bind_some]
  by_cases hn : 30 < names.length
  · rw [if_pos (decide_eq_true (by omega))]
  rw [if_neg (by rw [decide_eq_false (by omega)]; simp)]
  obtain ⟨r, g1, g2⟩ := names_loop6 names (by omega) hb
  rw [g1, Option.bind_some]
  rcases g2 with rfl | ⟨rfl, hw⟩
  · rfl
  simp only []
  have hj := join_len [44] names
  simp only [List.length_cons, List.length_nil] at hj
  have hj2 : (Lib.join names [44]).length ≤ 1500030 := by omega
  -- the text
  have h6 : ∀ s : List UInt8, s ++ [41] = [70] ++ 40 :: listS [44] names v [] → s.length ≤ 1600000 → emendlaw06_MacroParams_j6 names v true (!decide names.Nodup) s = some true := by
    intro s hs hsl
    unfold emendlaw06_MacroParams_j6
    have hlen : (s ++ [41]).length ≤ 1600001 := by rw [List.length_append]; simpa using hsl
    rw [chkT (by simp only [List.length_cons, List.length_nil]; omega), define_eq _ (by omega), Option.bind_some, hs]
    have hF : Word ([70] : List UInt8) := ⟨70, [], rfl, by decide, fun x hx => by cases hx⟩
    have sp : SpB [44] false := .inl ⟨rfl, rfl⟩
    have h92 : ∀ c ∈ ([70] ++ 40 :: listS [44] names v []), c ≠ 92 := by
      intro c hc
      rw [listS_eq] at hc
      have hjm : ∀ (l : List (List UInt8)), (∀ x ∈ l, Word x) → ∀ c ∈ Lib.join l [44], c ≠ 92 := by
        intro l hl c hc
        cases l with
        | nil => cases hc
        | cons x r =>
          rw [Lib.join_cons] at hc
          rcases List.mem_append.1 hc with hc | hc
          · exact word_no92 (hl x (by simp)) c hc
          · unfold Lib.joinTail at hc
            obtain ⟨y, hy, hcy⟩ := List.mem_flatten.1 hc
            obtain ⟨z, hz, rfl⟩ := List.mem_map.1 hy
            rcases List.mem_append.1 hcy with hq | hq
            · rintro rfl; revert hq; decide
            · exact word_no92 (hl z (by simp [hz])) c hq
      have h3 : c = 70 ∨ c = 40 ∨ c ∈ Lib.join names [44] ∨ c = 44 ∨ c = 46 ∨ c = 41 := by
        simp only [List.mem_append, List.mem_cons, List.not_mem_nil, or_false] at hc
        rcases hc with hc | hc | hc | hc | hc
        · exact .inl hc
        · exact .inr (.inl hc)
        · exact .inr (.inr (.inl hc))
        · by_cases hv : v = true
          · rw [if_pos hv] at hc
            rcases List.mem_append.1 hc with hc | hc
            · by_cases he : names = []
              · rw [if_pos he] at hc; cases hc
              · rw [if_neg he] at hc
                exact .inr (.inr (.inr (.inl (by simpa using hc))))
            · exact .inr (.inr (.inr (.inr (.inl (by simpa [dots] using hc)))))
          · rw [if_neg hv] at hc; cases hc
        · exact .inr (.inr (.inr (.inr (.inr hc))))
      rcases h3 with rfl | rfl | h3 | rfl | rfl | rfl
      · decide
      · decide
      · exact hjm names (fun x hx => (hw x hx).1) c h3
      · decide
      · decide
      · decide
    obtain ⟨j, hd⟩ := define_tokens sp [70] hF names (fun y hy => (hw y hy).1) v []
    rw [toks_nil, List.map_nil, List.append_nil] at hd
    have htk : (tokens 0 ([70] ++ 40 :: listS [44] names v [])).map tk = (nmT false [70] :: opT false [40] :: listT false names v).map tk := by
      rw [tokens_tk, charsAt_no92 _ _ h92, hd]
    have hS : (defineS (tokens 0 ([70] ++ 40 :: listS [44] names v []))).map id normM = if okL names [] = true then .inr ⟨[70], true, names, v, []⟩ else .inl 61 := by
      rw [← defineS_norm, norm_tk, htk, ← norm_tk, defineS_norm]
      have := define_listed [70] (by decide) (by decide) false names v []
      rw [List.append_nil] at this
      rw [this]
      by_cases h : okL names [] = true
      · rw [if_pos h, if_pos h]
        unfold withBody bodyE
        simp [clear, headP, lastP, hashBad, normM]
      · rw [if_neg h, if_neg h]; rfl
    have hva : vaN ∉ names := fun h => (hw _ h).2 rfl
    by_cases hnd : names.Nodup
    · have hok : okL names [] = true := (okL_iff names []).2 ⟨fun x hx => ⟨(hw x hx).2, by simp⟩, hnd⟩
      rw [if_pos hok] at hS
      have hm : ∃ m, defineS (tokens 0 ([70] ++ 40 :: listS [44] names v [])) = .inr m ∧ m.func = true ∧ m.params = names ∧ m.variadic = v := by
        cases hq : defineS (tokens 0 ([70] ++ 40 :: listS [44] names v [])) with
        | inl e => rw [hq] at hS; cases hS
        | inr m =>
          rw [hq] at hS
          simp only [Sum.map, Sum.elim_inr, Function.comp_apply, Sum.inr.injEq, normM, GMacro.mk.injEq] at hS
          exact ⟨m, rfl, hS.2.1, hS.2.2.1, hS.2.2.2.1⟩
      obtain ⟨m, hm, e1, e2, e3⟩ := hm
      have hdf : defineF (tokens 0 ([70] ++ 40 :: listS [44] names v [])) = (m, 0) := by unfold defineF; rw [hm]
      rw [hdf, decide_eq_true hnd, if_neg (by simp)]
      simp only [orO_some, Option.bind_some]
      rw [if_neg (by rw [e1, e2, e3]; simp)]
      have hp : m.params.length ≤ 9223372036854775806 := by rw [e2]; omega
      have hlp : loopS (emendlaw06_MacroParams_b8 names (m, 0)) 0 = some (.inl ()) := by
        obtain ⟨r, g3, g4⟩ := loopS_ix (f := emendlaw06_MacroParams_b8 names (m, 0)) names.length (by omega) (fun k x => x = (k : Int)) (fun r => r = .inl ()) (s0 := (0 : Int)) rfl (by
          rintro k x hk rfl
          left
          have hpk : paramF m names[k] = (k : Int) := by
            unfold paramF
            rw [decide_eq_false (fun (e : names[k] = vaN) => hva (by rw [← e]; exact List.getElem_mem hk)), Bool.and_false, if_neg (by simp), e2]
            exact idxL_at names hnd k hk
          unfold emendlaw06_MacroParams_b8
          rw [if_pos (decide_eq_true (by omega)), ix_at hk, Option.bind_some, mparam_eq _ _ hp, Option.bind_some, hpk, if_neg (by simp), chkT (by omega)]
          exact ⟨_, rfl, by push_cast; rfl⟩) (by
          rintro x rfl
          refine ⟨_, ?_, rfl⟩
          unfold emendlaw06_MacroParams_b8
          exact if_neg (by simp))
        rw [g3, g4]
      rw [hlp, Option.bind_some]
      show emendlaw06_MacroParams_j7 names v true (m, 0) () = _
      unfold emendlaw06_MacroParams_j7
      have hpv : paramF m vaN = if v = true then (names.length : Int) else -1 := by
        unfold paramF
        rw [e3, e2]
        cases v with
        | true => rfl
        | false => rw [if_neg (by simp), if_neg (by simp)]; exact idxL_no vaN names hva
      rw [show ([95, 95, 86, 65, 95, 65, 82, 71, 83, 95, 95] : List UInt8) = vaN from rfl, mparam_eq _ _ hp, Option.bind_some, hpv]
      cases v <;> simp [andO, orO]
    · have hok : ¬ okL names [] = true := fun h => hnd ((okL_iff names []).1 h).2
      rw [if_neg hok] at hS
      have hm : defineS (tokens 0 ([70] ++ 40 :: listS [44] names v [])) = .inl 61 := by
        cases hq : defineS (tokens 0 ([70] ++ 40 :: listS [44] names v [])) with
        | inl e => rw [hq] at hS; simpa [Sum.map] using hS
        | inr m => rw [hq] at hS; cases hS
      have hdf : (defineF (tokens 0 ([70] ++ 40 :: listS [44] names v []))).2 = 61 := by unfold defineF; rw [hm]
      rw [decide_eq_false hnd, if_pos (by rfl), hdf]
      simp [andO]
  unfold emendlaw06_MacroParams_j1
  simp only []
  by_cases hv : v = true
  · rw [if_pos hv]
    by_cases h0 : names = []
    · rw [if_neg (by rw [h0]; simp), chkT (by simp only [List.length_append, List.length_cons, List.length_nil]; omega)]
      refine h6 _ ?_ (by simp only [List.length_append, List.length_cons, List.length_nil]; omega)
      rw [listS_eq, if_pos hv, if_pos h0, h0, Lib.join_nil]; rfl
    · have : names.length ≠ 0 := fun e => h0 (List.eq_nil_of_length_eq_zero e)
      rw [if_pos (decide_eq_true (by omega)), chkT (by simp only [List.length_append, List.length_cons, List.length_nil]; omega), chkT (by simp only [List.length_append, List.length_cons, List.length_nil]; omega)]
      refine h6 _ ?_ (by simp only [List.length_append, List.length_cons, List.length_nil]; omega)
      rw [listS_eq, if_pos hv, if_neg h0]; simp [dots]
  · rw [if_neg hv]
    refine h6 _ ?_ (by simp only [List.length_append, List.length_cons, List.length_nil]; omega)
    rw [listS_eq, if_neg hv]; simp
end Go.Sh
