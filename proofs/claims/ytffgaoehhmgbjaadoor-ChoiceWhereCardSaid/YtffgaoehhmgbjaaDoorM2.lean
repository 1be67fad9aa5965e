/-
  choice in plain words: one list laid into another; what a set's list is. No program in sight.
-/
import Derived.Test.YtffgaoehhmgbjaaDoorM1
import Derived.Test.YtffgaoehhmgbjaaDoorM0
set_option linter.unusedVariables false
set_option linter.unusedSimpArgs false
namespace Go.Sh
open Go Go.Vc.Bdd
theorem andO_true {k : Option Bool} : andO true k = k := rfl
theorem andO_false {k : Option Bool} : andO false k = some false := rfl
theorem orO_true {k : Option Bool} : orO true k = some true := rfl
theorem orO_false {k : Option Bool} : orO false k = k := rfl
abbrev CL := List (GTok × (Asg → Bool))
def Rep (A : GArena) : List GChoice_CTok → CL → Prop
  | [], [] => True
  | c :: l, p :: L => c.t = p.1 ∧ Fit A c.cond p.2 ∧ Rep A l L
  | _, _ => False
theorem Rep.len {A : GArena} : ∀ {l : List GChoice_CTok} {L : CL}, Rep A l L → l.length = L.length
  | [], [], _ => rfl
  | c :: l, p :: L, h => by rw [List.length_cons, List.length_cons, Rep.len h.2.2]
theorem Rep.at_ {A : GArena} : ∀ {l : List GChoice_CTok} {L : CL} {k : Nat} (h : Rep A l L) (hk : k < l.length) (hk' : k < L.length), l[k].t = L[k].1 ∧ Fit A l[k].cond L[k].2
  | c :: l, p :: L, 0, h, _, _ => ⟨h.1, h.2.1⟩
  | c :: l, p :: L, k + 1, h, h1, h2 => Rep.at_ (k := k) h.2.2 (by simpa using h1) (by simpa using h2)
  | [], _, _, _, h, _ => absurd h (Nat.not_lt_zero _)
theorem Rep.append {A : GArena} : ∀ {l l' : List GChoice_CTok} {L L' : CL}, Rep A l L → Rep A l' L' → Rep A (l ++ l') (L ++ L')
  | [], l', [], L', _, h => h
  | c :: l, l', p :: L, L', h, k => ⟨h.1, h.2.1, Rep.append h.2.2 k⟩
theorem Rep.push {A : GArena} {l : List GChoice_CTok} {L : CL} {c : GChoice_CTok} {p : GTok × (Asg → Bool)} (h : Rep A l L) (h1 : c.t = p.1) (h2 : Fit A c.cond p.2) : Rep A (l ++ [c]) (L ++ [p]) := h.append ⟨h1, h2, trivial⟩
theorem Rep.ext {A B : GArena} (g : GA A) (e : AExt A B) : ∀ {l : List GChoice_CTok} {L : CL}, Rep A l L → Rep B l L
  | [], [], _ => trivial
  | c :: l, p :: L, h => ⟨h.1, h.2.1.ext g e, Rep.ext g e h.2.2⟩
theorem Rep.drop {A : GArena} : ∀ {l : List GChoice_CTok} {L : CL} (k : Nat), Rep A l L → Rep A (l.drop k) (L.drop k)
  | l, L, 0, h => h
  | [], [], k + 1, h => h
  | c :: l, p :: L, k + 1, h => Rep.drop k h.2.2
def sel (L : CL) (s : Asg) : List GTok := (L.filter fun p => p.2 s).map (·.1)
theorem sel_append (L M : CL) (s : Asg) : sel (L ++ M) s = sel L s ++ sel M s := by unfold sel; rw [List.filter_append, List.map_append]
theorem sel_one (p : GTok × (Asg → Bool)) (s : Asg) : sel [p] s = if p.2 s = true then [p.1] else [] := by
  unfold sel
  cases h : p.2 s <;> simp [h]
theorem sel_push (L : CL) (p : GTok × (Asg → Bool)) (s : Asg) : sel (L ++ [p]) s = sel L s ++ if p.2 s = true then [p.1] else [] := by rw [sel_append, sel_one]
theorem take_push {α : Type} (l : List α) (i : Nat) (h : i < l.length) : l.take (i + 1) = l.take i ++ [l[i]] := by rw [List.take_add_one, List.getElem?_eq_getElem h]; rfl
structure PartR (L : CL) (m : List GTok) (h : Asg → Bool) (i k : Nat) (O : CL) : Prop where
  len : O.length ≤ i + k
  on : ∀ s, h s = true → (∀ p ∈ L, p.2 s = false) → sel O s = m.take k
  off : ∀ s, h s = false → sel O s = sel (L.take i) s
  up : ∀ o ∈ O, (∃ p ∈ L, ∀ s, p.2 s = true → o.2 s = true) ∨ ∀ s, h s = true → o.2 s = true
  dn : ∀ o ∈ O, ∀ s, o.2 s = true → h s = true ∨ ∃ p ∈ L, p.2 s = true
structure IntoR (L : CL) (m : List GTok) (h : Asg → Bool) (O : CL) : Prop where
  len : O.length ≤ L.length + m.length
  on : ∀ s, h s = true → (∀ p ∈ L, p.2 s = false) → sel O s = m
  off : ∀ s, h s = false → sel O s = sel L s
  up : ∀ o ∈ O, (∃ p ∈ L, ∀ s, p.2 s = true → o.2 s = true) ∨ ∀ s, h s = true → o.2 s = true
  dn : ∀ o ∈ O, ∀ s, o.2 s = true → h s = true ∨ ∃ p ∈ L, p.2 s = true
section
variable {L : CL} {m : List GTok} {h : Asg → Bool} {i k : Nat} {O : CL}
theorem PartR.zero : PartR L m h 0 0 [] := ⟨Nat.le_refl _, fun s _ _ => by rw [List.take_zero]; rfl, fun s _ => by rw [List.take_zero], fun o ho => (nomatch ho), fun o ho => (nomatch ho)⟩
theorem PartR.both (r : PartR L m h i k O) (hi : i < L.length) (hk : k < m.length) (e : L[i].1 = m[k]) : PartR L m h (i + 1) (k + 1) (O ++ [(L[i].1, fun s => L[i].2 s || h s)]) where
  len := by rw [List.length_append]; have := r.len; simp only [List.length_cons, List.length_nil]; omega
  on := fun s hs hd => by
    rw [sel_push, r.on s hs hd, take_push m k hk]
    have : (L[i].2 s || h s) = true := by rw [hs, Bool.or_true]
    simp only [this, if_true, e]
  off := fun s hs => by
    rw [sel_push, r.off s hs, take_push L i hi, sel_push]
    have : (L[i].2 s || h s) = L[i].2 s := by rw [hs, Bool.or_false]
    simp only [this]
  up := fun o ho => by
    rcases List.mem_append.1 ho with ho | ho
    · exact r.up o ho
    · rw [List.mem_singleton.1 ho]
      exact .inr fun s hs => by simp only [hs, Bool.or_true]
  dn := fun o ho s hs => by
    rcases List.mem_append.1 ho with ho | ho
    · exact r.dn o ho s hs
    · rw [List.mem_singleton.1 ho] at hs
      simp only [Bool.or_eq_true] at hs
      rcases hs with hs | hs
      · exact .inr ⟨_, List.getElem_mem hi, hs⟩
      · exact .inl hs
theorem PartR.left (r : PartR L m h i k O) (hi : i < L.length) : PartR L m h (i + 1) k (O ++ [L[i]]) where
  len := by rw [List.length_append]; have := r.len; simp only [List.length_cons, List.length_nil]; omega
  on := fun s hs hd => by
    rw [sel_push, r.on s hs hd]
    simp only [hd _ (List.getElem_mem hi), Bool.false_eq_true, if_false, List.append_nil]
  off := fun s hs => by rw [sel_push, r.off s hs, take_push L i hi, sel_push]
  up := fun o ho => by
    rcases List.mem_append.1 ho with ho | ho
    · exact r.up o ho
    · rw [List.mem_singleton.1 ho]
      exact .inl ⟨_, List.getElem_mem hi, fun s hs => hs⟩
  dn := fun o ho s hs => by
    rcases List.mem_append.1 ho with ho | ho
    · exact r.dn o ho s hs
    · rw [List.mem_singleton.1 ho] at hs
      exact .inr ⟨_, List.getElem_mem hi, hs⟩
theorem PartR.right (r : PartR L m h i k O) (hk : k < m.length) : PartR L m h i (k + 1) (O ++ [(m[k], h)]) where
  len := by rw [List.length_append]; have := r.len; simp only [List.length_cons, List.length_nil]; omega
  on := fun s hs hd => by
    rw [sel_push, r.on s hs hd, take_push m k hk]
    simp only [hs, if_true]
  off := fun s hs => by
    rw [sel_push, r.off s hs]
    simp only [hs, Bool.false_eq_true, if_false, List.append_nil]
  up := fun o ho => by
    rcases List.mem_append.1 ho with ho | ho
    · exact r.up o ho
    · rw [List.mem_singleton.1 ho]
      exact .inr fun s hs => hs
  dn := fun o ho s hs => by
    rcases List.mem_append.1 ho with ho | ho
    · exact r.dn o ho s hs
    · rw [List.mem_singleton.1 ho] at hs
      exact .inl hs
end
theorem into_ok {A : GArena} (g : GA A) {l : List GChoice_CTok} {m : List GTok} {L : CL} {here : Int} {h : Asg → Bool} (hrep : Rep A l L) (hh : Fit A here h) (hl : l.length ≤ 100000) (hm : m.length ≤ 100000) :
    ∃ out B, choice_into A l m here = some (out, B) ∧ GA B ∧ AExt A B ∧ ∃ O, Rep B out O ∧ IntoR L m h O := by
  have hlen := hrep.len
  unfold choice_into
  have ht : choice_table l m = some (tabL l m) := by
    unfold choice_table; rw [chkB, pk ⟨by omega, by omega⟩]
  rw [ht, Option.bind_some]
  have hrow : ∀ i, i ≤ l.length → ∃ row, ix (tabL l m) (i : Int) = some row ∧ row.length = m.length + 1 := fun i hi => by
    have hlt : i < (tabL l m).length := by rw [tabL_len]; omega
    exact ⟨_, ix_at hlt, (tabL_row l m _ (List.getElem_mem hlt)).1⟩
  obtain ⟨⟨out, B⟩, h1, i, k, hi, hk, gB, eB, O, hO, hR, hend⟩ := loopS_rel (f := choice_into_b2 l m here (tabL l m)) (fun x => ∃ i k : Nat, x.1 = (i : Int) ∧ x.2.1 = (k : Int) ∧ i ≤ l.length ∧ k ≤ m.length ∧ GA x.2.2.2 ∧ AExt A x.2.2.2 ∧ ∃ O, Rep x.2.2.2 x.2.2.1 O ∧ PartR L m h i k O) (fun x => l.length + m.length - (x.1.toNat + x.2.1.toNat)) (fun r => ∃ i k : Nat, i ≤ l.length ∧ k ≤ m.length ∧ GA r.2 ∧ AExt A r.2 ∧ ∃ O, Rep r.2 r.1 O ∧ PartR L m h i k O ∧ i = l.length ∧ k = m.length) (s := ((0 : Int), (0 : Int), ([] : List GChoice_CTok), A)) ⟨0, 0, rfl, rfl, Nat.zero_le _, Nat.zero_le _, g, AExt.refl A, [], trivial, PartR.zero⟩ (by simp only; omega) (by
    rintro ⟨xi, xk, out, B⟩ ⟨i, k, rfl, rfl, hi, hk, gB, eB, O, hO, hR⟩
    replace gB : GA B := gB
    replace eB : AExt A B := eB
    replace hO : Rep B out O := hO
    have hol := hO.len
    have hRl := hR.len
    by_cases hend : i = l.length ∧ k = m.length
    · right
      refine ⟨(out, B), ?_, i, k, hi, hk, gB, eB, O, hO, hR, hend.1, hend.2⟩
      unfold choice_into_b2
      simp only [dF (show ¬ (i : Int) < (l.length : Int) by omega), dF (show ¬ (k : Int) < (m.length : Int) by omega), orO_false, Option.bind_some, Bool.false_eq_true, if_false]
    · left
      have c1 : orO (decide ((i : Int) < (l.length : Int))) (some (decide ((k : Int) < (m.length : Int)))) = some true := by
        by_cases e : i < l.length
        · rw [dT (by omega), orO_true]
        · rw [dF (by omega), orO_false, dT (by omega)]
      have sz : (out.length + 1) * 64 ≤ 140737488355328 := by omega
      have ii : I64 ((i : Int) + 1) := i64_small (by omega) (by omega)
      have kk : I64 ((k : Int) + 1) := i64_small (by omega) (by omega)
      by_cases c2 : ∃ (a : i < l.length) (b : k < m.length), l[i].t = m[k]
      · obtain ⟨a, b, e⟩ := c2
        obtain ⟨f1, f2⟩ := hrep.at_ a (by omega)
        obtain ⟨r, C, o1, o2, o3, o4⟩ := fOr gB (f2.ext g eB) (hh.ext g eB)
        refine ⟨((i : Int) + 1, (k : Int) + 1, out ++ [⟨l[i].t, r⟩], C), ?_, ⟨i + 1, k + 1, by simp only; omega, by simp only; omega, by omega, by omega, o2, eB.trans o3, _, (hO.ext gB o3).push f1 o4, hR.both (by omega) b (f1.symm.trans e)⟩, by simp only; omega⟩
        unfold choice_into_b2
        simp only [chkB, c1, dT (show (i : Int) < (l.length : Int) by omega), dT (show (k : Int) < (m.length : Int) by omega), andO_true, orO_true, ix_at a, ix_at b, Option.bind_some, dT e, if_true, o1]
        rw [pk sz, pk ii, pk kk]
      · have c3 : ((andO (decide ((i : Int) < (l.length : Int))) (some (decide ((k : Int) < (m.length : Int))))).bind fun b_2 => (andO b_2 ((ix l (i : Int)).bind fun y_1 => (ix m (k : Int)).bind fun y_2 => some (decide (y_1.t = y_2))))) = some false := by
          by_cases a : i < l.length
          · rw [dT (by omega), andO_true, Option.bind_some]
            by_cases b : k < m.length
            · rw [dT (by omega), andO_true, ix_at a, Option.bind_some, ix_at b, Option.bind_some, dF (fun e => c2 ⟨a, b, e⟩)]
            · rw [dF (by omega), andO_false]
          · rw [dF (by omega), andO_false, Option.bind_some, andO_false]
        have c4 : ∃ b, (orO (decide ((k : Int) = (m.length : Int))) ((andO (decide ((i : Int) < (l.length : Int))) (chk (I64 ((i : Int) + (1 : Int))) ((ix (tabL l m) ((i : Int) + (1 : Int))).bind fun y_5 => (ix y_5 (k : Int)).bind fun y_6 => (ix (tabL l m) (i : Int)).bind fun y_7 => chk (I64 ((k : Int) + (1 : Int))) ((ix y_7 ((k : Int) + (1 : Int))).bind fun y_8 => some (decide (y_8 ≤ y_6)))))).bind fun b_5 => some b_5)) = some b ∧ (b = true → i < l.length) ∧ (b = false → k < m.length) := by
          by_cases b : k = m.length
          · rw [dT (by omega), orO_true]
            exact ⟨true, rfl, (fun _ => by omega), (fun h => by cases h)⟩
          · rw [dF (by omega), orO_false]
            by_cases a : i < l.length
            · rw [dT (by omega), andO_true]
              obtain ⟨r1, e1, e2⟩ := hrow (i + 1) (by omega)
              obtain ⟨r2, e3, e4⟩ := hrow i (by omega)
              rw [chkB, pk ii, fl_nat i, e1, Option.bind_some, ix_at (show k < r1.length by omega), Option.bind_some, e3, Option.bind_some, chkB, pk kk, fl_nat k, ix_at (show k + 1 < r2.length by omega), Option.bind_some, Option.bind_some]
              exact ⟨_, rfl, (fun _ => a), (fun _ => by omega)⟩
            · rw [dF (by omega), andO_false, Option.bind_some]
              exact ⟨false, rfl, (fun h => by cases h), (fun _ => by omega)⟩
        obtain ⟨b, c4, b1, b2⟩ := c4
        cases b with
        | true =>
          have a := b1 rfl
          obtain ⟨f1, f2⟩ := hrep.at_ a (by omega)
          refine ⟨((i : Int) + 1, (k : Int), out ++ [l[i]], B), ?_, ⟨i + 1, k, by simp only; omega, rfl, by omega, hk, gB, eB, _, hO.push f1 (f2.ext g eB), hR.left (by omega)⟩, by simp only; omega⟩
          have c3' := c3
          unfold choice_into_b2
          simp only
          rw [c1, Option.bind_some, if_pos rfl, ← Option.bind_assoc, c3', Option.bind_some, if_neg (by decide), c4, Option.bind_some, if_pos rfl, ix_at a, Option.bind_some, chkB, pk sz, chkB, pk ii]
        | false =>
          have a := b2 rfl
          refine ⟨((i : Int), (k : Int) + 1, out ++ [⟨m[k], here⟩], B), ?_, ⟨i, k + 1, rfl, by simp only; omega, hi, by omega, gB, eB, _, hO.push (p := (m[k], h)) rfl (hh.ext g eB), hR.right a⟩, by simp only; omega⟩
          unfold choice_into_b2
          simp only
          rw [c1, Option.bind_some, if_pos rfl, ← Option.bind_assoc, c3, Option.bind_some, if_neg (by decide), c4, Option.bind_some, if_neg (by decide), ix_at a, Option.bind_some, chkB, pk sz, chkB, pk kk])
  rw [h1, Option.bind_some]
  refine ⟨out, B, rfl, gB, eB, O, hO, ?_, ?_, ?_, hR.up, hR.dn⟩
  · have := hR.len; omega
  · intro s hs hd; rw [hR.on s hs hd, hend.2, List.take_length]
  · intro s hs; rw [hR.off s hs, hend.1, hlen, List.take_length]
end Go.Sh
