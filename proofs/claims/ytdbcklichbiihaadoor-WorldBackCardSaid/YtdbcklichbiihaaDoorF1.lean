/-
  Names by rising bytes, each once; by the program and by the document. No program in sight.
-/
import Derived.Test.YtdbcklichbiihaaDoorF0
import Derived.Test.YtdbcklichbiihaaDoorSp
set_option linter.unusedVariables false
set_option linter.unusedSimpArgs false
namespace Go.Sh
open Go
theorem bless : ∀ (x y : List UInt8), Go.Op.bytesLess x y = decide (x < y)
  | [], [] => by simp [Go.Op.bytesLess]
  | _ :: _, [] => by simp [Go.Op.bytesLess]
  | [], _ :: _ => by simp [Go.Op.bytesLess]
  | a :: x, b :: y => by
    rw [Go.Op.bytesLess, bless x y, Bool.eq_iff_iff]
    simp [List.cons_lt_cons_iff]
abbrev Tx := List UInt8
theorem tx_irrefl (x : Tx) : ¬ x < x := List.lt_irrefl x
theorem tx_trans {x y z : Tx} (h : x < y) (k : y < z) : x < z := List.lt_trans h k
theorem tx_tri (x y : Tx) : x < y ∨ x = y ∨ y < x := by
  by_cases h1 : x < y
  · exact .inl h1
  · by_cases h2 : y < x
    · exact .inr (.inr h2)
    · exact .inr (.inl (List.le_antisymm (List.not_lt.1 h2) (List.not_lt.1 h1)))
def Srt (l : List Tx) : Prop := l.Pairwise (· < ·)
theorem Srt.nodup {l : List Tx} (h : Srt l) : l.Nodup := List.Pairwise.imp (fun {a b} h e => by subst e; exact tx_irrefl a h) h
theorem srt_uniq : ∀ {a b : List Tx}, Srt a → Srt b → (∀ x, x ∈ a ↔ x ∈ b) → a = b
  | [], [], _, _, _ => rfl
  | [], y :: b, _, _, h => by have := (h y).2 (by simp); cases this
  | x :: a, [], _, _, h => by have := (h x).1 (by simp); cases this
  | x :: a, y :: b, ha, hb, h => by
    obtain ⟨a1, a2⟩ := List.pairwise_cons.1 ha
    obtain ⟨b1, b2⟩ := List.pairwise_cons.1 hb
    have e : x = y := by
      rcases List.mem_cons.1 ((h x).1 (by simp)) with e | hx
      · exact e
      · rcases List.mem_cons.1 ((h y).2 (by simp)) with e | hy
        · exact e.symm
        · exact (tx_irrefl _ (tx_trans (b1 x hx) (a1 y hy))).elim
    subst e
    rw [srt_uniq a2 b2 (fun z => ?_)]
    constructor
    · intro hz
      rcases List.mem_cons.1 ((h z).1 (List.mem_cons_of_mem _ hz)) with e | hz2
      · subst e; exact (tx_irrefl _ (a1 z hz)).elim
      · exact hz2
    · intro hz
      rcases List.mem_cons.1 ((h z).2 (List.mem_cons_of_mem _ hz)) with e | hz2
      · subst e; exact (tx_irrefl _ (b1 z hz)).elim
      · exact hz2
theorem sortS_srt (ks : List Tx) (h : ks.Nodup) : Srt (sortS ks) := by
  have h1 : (sortS ks).Pairwise fun a b => (decide (a ≤ b)) = true := by
    unfold sortS
    exact List.pairwise_mergeSort (fun a b c h1 h2 => by simp only [decide_eq_true_eq] at *; exact List.le_trans h1 h2) (fun a b => by simp only [Bool.or_eq_true, decide_eq_true_eq]; exact List.le_total a b) ks
  have h2 : (sortS ks).Nodup := by unfold sortS; exact (List.mergeSort_perm _ _).nodup_iff.2 h
  refine List.Pairwise.imp₂ ?_ h1 h2
  intro a b hab hne
  simp only [decide_eq_true_eq] at hab
  rcases tx_tri a b with h | h | h
  · exact h
  · exact (hne h).elim
  · exact (hab h).elim
/-! ### one more name -/
def rput (x : Tx) : List Tx → List Tx
  | [] => [x]
  | y :: r => if y = x then y :: r else if x < y then x :: y :: r else y :: rput x r
theorem rput_mem (x z : Tx) : ∀ l : List Tx, z ∈ rput x l ↔ z ∈ l ∨ z = x
  | [] => by simp [rput]
  | y :: r => by
    rw [rput]
    by_cases h : y = x
    · subst h; rw [if_pos rfl]; simp; exact fun e => .inl e
    · rw [if_neg h]
      by_cases h2 : x < y
      · rw [if_pos h2]; simp only [List.mem_cons]; exact ⟨fun h => h.elim .inr .inl, fun h => h.elim .inr .inl⟩
      · rw [if_neg h2, List.mem_cons, rput_mem x z r, List.mem_cons]; exact ⟨fun h => h.elim (fun e => .inl (.inl e)) (fun h => h.elim (fun e => .inl (.inr e)) .inr), fun h => h.elim (fun h => h.elim .inl (fun e => .inr (.inl e))) (fun e => .inr (.inr e))⟩
theorem rput_srt (x : Tx) : ∀ l : List Tx, Srt l → Srt (rput x l)
  | [], _ => by simp [rput, Srt]
  | y :: r, h => by
    obtain ⟨h1, h2⟩ := List.pairwise_cons.1 h
    rw [rput]
    by_cases e : y = x
    · rw [if_pos e]; exact h
    · rw [if_neg e]
      by_cases h3 : x < y
      · rw [if_pos h3]
        exact List.pairwise_cons.2 ⟨fun z hz => by
          rcases List.mem_cons.1 hz with rfl | hz
          · exact h3
          · exact tx_trans h3 (h1 z hz), h⟩
      · rw [if_neg h3]
        refine List.pairwise_cons.2 ⟨fun z hz => ?_, rput_srt x r h2⟩
        rcases (rput_mem x z r).1 hz with hz | rfl
        · exact h1 z hz
        · rcases tx_tri y z with h | h | h
          · exact h
          · exact (e h).elim
          · exact (h3 h).elim
theorem rput_len (x : Tx) : ∀ l : List Tx, (rput x l).length ≤ l.length + 1
  | [] => Nat.le_refl _
  | y :: r => by
    rw [rput]
    split
    · simp
    · split
      · simp
      · have := rput_len x r; simp only [List.length_cons]; omega
theorem rput_in (x : Tx) : ∀ l : List Tx, Srt l → x ∈ l → rput x l = l
  | [], _, h => by cases h
  | y :: r, hs, h => by
    obtain ⟨h1, h2⟩ := List.pairwise_cons.1 hs
    rw [rput]
    by_cases e : y = x
    · rw [if_pos e]
    · rcases List.mem_cons.1 h with h | h
      · exact (e h.symm).elim
      · rw [if_neg e, if_neg (fun h3 => tx_irrefl _ (tx_trans h3 (h1 x h))), rput_in x r h2 h]
theorem rput_snoc (x z : Tx) : ∀ l : List Tx, (∃ y ∈ l, x < y) → rput x (l ++ [z]) = rput x l ++ [z]
  | [], ⟨y, h, _⟩ => by cases h
  | a :: r, ⟨y, hy, hxy⟩ => by
    rw [List.cons_append, rput, rput]
    by_cases e : a = x
    · rw [if_pos e, if_pos e]; rfl
    · rw [if_neg e, if_neg e]
      by_cases h2 : x < a
      · rw [if_pos h2, if_pos h2]; rfl
      · rw [if_neg h2, if_neg h2]
        rcases List.mem_cons.1 hy with rfl | hy
        · exact (h2 hxy).elim
        · rw [rput_snoc x z r ⟨y, hy, hxy⟩]; rfl
theorem rput_last (x : Tx) : ∀ l : List Tx, (∀ y ∈ l, y < x) → rput x l = l ++ [x]
  | [], _ => rfl
  | a :: r, h => by
    have ha := h a (by simp)
    rw [rput, if_neg (fun e => by subst e; exact tx_irrefl _ ha), if_neg (fun h3 => tx_irrefl _ (tx_trans h3 ha)), rput_last x r (fun y hy => h y (by simp [hy]))]; rfl
theorem rput_before (x z : Tx) (hz : x < z) : ∀ l : List Tx, (∀ y ∈ l, y < x) → rput x (l ++ [z]) = l ++ [x, z]
  | [], _ => by simp only [List.nil_append, rput]; rw [if_neg (fun e => by subst e; exact tx_irrefl _ hz), if_pos hz]
  | a :: r, h => by
    have ha := h a (by simp)
    rw [List.cons_append, rput, if_neg (fun e => by subst e; exact tx_irrefl _ ha), if_neg (fun h3 => tx_irrefl _ (tx_trans h3 ha)), rput_before x z hz r (fun y hy => h y (by simp [hy]))]; rfl
theorem put_eq (l : List Tx) (x : Tx) (hs : Srt l) (hl : l.length ≤ 100000000) : emendref11_Put l x = some (rput x l) := by
  unfold emendref11_Put
  obtain ⟨r, g1, g2⟩ := loopS_ix (f := emendref11_Put_b2 l x) l.length (by omega)
    (fun k s => s.2.1 = (k : Int) ∧ x ∉ l.take k ∧ ((s.1 = false ∧ (∀ y ∈ l.take k, y < x) ∧ s.2.2 = l.take k) ∨ (s.1 = true ∧ (∃ y ∈ l.take k, x < y) ∧ s.2.2 = rput x (l.take k))))
    (fun r => (r = .inr l ∧ x ∈ l) ∨ (∃ d o, r = .inl (d, o) ∧ ((d = false ∧ (∀ y ∈ l, y < x) ∧ o = l) ∨ (d = true ∧ o = rput x l)))) (s0 := (false, (0 : Int), ([] : List Tx))) ⟨rfl, by simp, .inl ⟨rfl, by simp, rfl⟩⟩ (by
    rintro k ⟨d, i, o⟩ hk ⟨h1, hx, h2⟩
    simp only at h1 h2
    subst h1
    have htake : l.take (k + 1) = l.take k ++ [l[k]] := by rw [List.take_add_one, List.getElem?_eq_getElem hk]; rfl
    unfold emendref11_Put_b2
    simp only
    rw [if_pos (decide_eq_true (show (k : Int) < (l.length : Int) by omega)), ix_at hk, Option.bind_some]
    by_cases e : l[k] = x
    · right
      rw [if_pos (decide_eq_true e)]
      exact ⟨_, rfl, .inl ⟨rfl, by rw [← e]; exact List.getElem_mem hk⟩⟩
    · left
      rw [if_neg (by simpa using e), Option.bind_some, bless]
      have hx2 : x ∉ l.take (k + 1) := by
        rw [htake]; intro hm
        rcases List.mem_append.1 hm with hm | hm
        · exact hx hm
        · exact e (List.mem_singleton.1 hm).symm
      have hlen : (l.take k).length ≤ 100000000 := by rw [List.length_take]; omega
      have hrl := rput_len x (l.take k)
      rcases h2 with ⟨rfl, h3, rfl⟩ | ⟨rfl, h3, rfl⟩
      · by_cases h4 : x < l[k]
        · have h5 : ¬ l[k] < x := fun h => tx_irrefl _ (tx_trans h h4)
          rw [decide_eq_false h5, decide_eq_false e]
          refine ⟨(true, ((k + 1 : Nat) : Int), rput x (l.take (k + 1))), ?_, rfl, hx2, .inr ⟨rfl, ⟨l[k], by rw [htake]; exact List.mem_append_right _ (List.mem_singleton.2 rfl), h4⟩, rfl⟩⟩
          rw [show andO (!false) (some (!(false || false))) = some true from rfl, Option.bind_some, if_pos rfl, chkT (by omega)]
          unfold emendref11_Put_j3
          simp only
          rw [ix_at hk, Option.bind_some, chkT (by rw [List.length_append]; simp only [List.length_cons, List.length_nil]; omega), chkT (by omega), htake, rput_before x _ h4 _ h3]
          rw [List.append_assoc]; rfl
        · have h5 : l[k] < x := by
            rcases tx_tri l[k] x with h | h | h
            · exact h
            · exact (e h).elim
            · exact (h4 h).elim
          rw [decide_eq_true h5]
          refine ⟨(false, ((k + 1 : Nat) : Int), l.take (k + 1)), ?_, rfl, hx2, .inl ⟨rfl, ?_, rfl⟩⟩
          · rw [show ∀ b : Bool, andO (!false) (some (!(true || b))) = some false from fun b => rfl, Option.bind_some, if_neg (by simp)]
            unfold emendref11_Put_j3
            simp only
            rw [ix_at hk, Option.bind_some, chkT (by omega), chkT (by omega), htake]; rfl
          · intro y hy
            rw [htake] at hy
            rcases List.mem_append.1 hy with hy | hy
            · exact h3 y hy
            · rw [List.mem_singleton.1 hy]; exact h5
      · refine ⟨(true, ((k + 1 : Nat) : Int), rput x (l.take (k + 1))), ?_, rfl, hx2, .inr ⟨rfl, ?_, rfl⟩⟩
        · rw [show ∀ c : Option Bool, andO (!true) c = some false from fun c => rfl, Option.bind_some, if_neg (by simp)]
          unfold emendref11_Put_j3
          simp only
          rw [ix_at hk, Option.bind_some, chkT (by omega), chkT (by omega), htake, rput_snoc x _ _ h3]; rfl
        · obtain ⟨y, hy, hxy⟩ := h3
          exact ⟨y, by rw [htake]; exact List.mem_append_left _ hy, hxy⟩) (by
    rintro ⟨d, i, o⟩ ⟨h1, hx, h2⟩
    simp only at h1 h2
    subst h1
    rw [List.take_length] at hx h2
    refine ⟨.inl (d, o), ?_, .inr ⟨d, o, rfl, ?_⟩⟩
    · unfold emendref11_Put_b2
      exact if_neg (by simp)
    · rcases h2 with ⟨h, h3, h4⟩ | ⟨h, h3, h4⟩
      · exact .inl ⟨h, h3, h4⟩
      · exact .inr ⟨h, h4⟩)
  rw [g1, Option.bind_some]
  have hrl := rput_len x l
  rcases g2 with ⟨rfl, hx⟩ | ⟨d, o, rfl, ⟨rfl, h3, rfl⟩ | ⟨rfl, rfl⟩⟩
  · simp only; rw [rput_in x l hs hx]
  · simp only
    unfold emendref11_Put_j1
    simp only
    rw [if_pos (by rfl), chkT (by omega), rput_last x _ h3]; rfl
  · simp only
    unfold emendref11_Put_j1
    simp only
    rw [if_neg (by simp)]; rfl
/-! ### sets of names of tokens -/
def idents (l : List GTok) : List GTok := l.filter (fun t => decide (t.kind = 1))
theorem putS_mem (s : Tx) (ks : List Tx) (x : Tx) : x ∈ putS s ks ↔ x ∈ ks ∨ x = s := by
  unfold putS; split
  · rename_i h
    exact ⟨.inl, fun h2 => h2.elim id (fun e => e ▸ h)⟩
  · simp
theorem putS_nodup (s : Tx) (ks : List Tx) (h : ks.Nodup) : (putS s ks).Nodup := by
  unfold putS; split
  · exact h
  · rename_i hn
    exact List.nodup_append.2 ⟨h, by simp, fun a ha b hb e => by
      rw [List.mem_singleton] at hb
      subst hb; subst e; exact hn ha⟩
theorem putS_len (s : Tx) (ks : List Tx) : (putS s ks).length ≤ ks.length + 1 := by
  unfold putS; split <;> simp
theorem idents_cons (t : GTok) (r : List GTok) : idents (t :: r) = if t.kind = 1 then t :: idents r else idents r := by
  unfold idents
  rw [List.filter_cons]
  by_cases h : t.kind = 1
  · rw [if_pos h, if_pos (decide_eq_true h)]
  · rw [if_neg h, if_neg (by simpa using h)]
theorem addS_mem (x : Tx) : ∀ (l : List GTok) (ks : List Tx), x ∈ addS ks l ↔ x ∈ ks ∨ x ∈ (idents l).map GTok.text
  | [], ks => by simp [addS, idents]
  | t :: r, ks => by
    rw [addS, addS_mem x r, idents_cons]
    by_cases h : t.kind = 1
    · rw [if_pos h, if_pos h, putS_mem, List.map_cons, List.mem_cons]; exact ⟨fun h => h.elim (fun h => h.elim .inl (fun e => .inr (.inl e))) (fun h => .inr (.inr h)), fun h => h.elim (fun h => .inl (.inl h)) (fun h => h.elim (fun e => .inl (.inr e)) .inr)⟩
    · rw [if_neg h, if_neg h]
theorem addS_nodup : ∀ (l : List GTok) (ks : List Tx), ks.Nodup → (addS ks l).Nodup
  | [], ks, h => h
  | t :: r, ks, h => by
    rw [addS]
    refine addS_nodup r _ ?_
    split
    · exact putS_nodup _ _ h
    · exact h
theorem addS_len : ∀ (l : List GTok) (ks : List Tx), (addS ks l).length ≤ ks.length + l.length
  | [], ks => Nat.le_refl _
  | t :: r, ks => by
    rw [addS, List.length_cons]
    refine Nat.le_trans (addS_len r _) ?_
    split
    · have := putS_len t.text ks; omega
    · omega
theorem addS_append : ∀ (l m : List GTok) (ks : List Tx), addS ks (l ++ m) = addS (addS ks l) m
  | [], m, ks => rfl
  | t :: r, m, ks => by rw [List.cons_append, addS, addS, addS_append r m]
theorem addS_fold {α : Type} (G : α → List GTok) : ∀ (xs : List α) (ks : List Tx), xs.foldl (fun ks x => addS ks (G x)) ks = addS ks (xs.flatMap G)
  | [], ks => rfl
  | x :: xs, ks => by rw [List.foldl_cons, addS_fold G xs, List.flatMap_cons, addS_append]
/-- the names of tokens, by rising bytes -/
def setOf (L : List GTok) : List Tx := sortS (addS [] L)
theorem setOf_srt (L : List GTok) : Srt (setOf L) := sortS_srt _ (addS_nodup L [] List.nodup_nil)
theorem setOf_mem (L : List GTok) (x : Tx) : x ∈ setOf L ↔ x ∈ (idents L).map GTok.text := by
  unfold setOf sortS
  rw [List.mem_mergeSort, addS_mem]; simp
theorem setOf_len (L : List GTok) : (setOf L).length ≤ L.length := by
  unfold setOf sortS
  rw [List.length_mergeSort]
  have := addS_len L []; simpa using this
/-- by the document: name by name -/
def rputs (ks : List Tx) (L : List GTok) : List Tx := L.foldl (fun ks t => if t.kind = 1 then rput t.text ks else ks) ks
theorem rputs_cons (ks : List Tx) (t : GTok) (L : List GTok) : rputs ks (t :: L) = rputs (if t.kind = 1 then rput t.text ks else ks) L := rfl
theorem rputs_append (ks : List Tx) (L M : List GTok) : rputs ks (L ++ M) = rputs (rputs ks L) M := by unfold rputs; rw [List.foldl_append]
theorem rputs_srt : ∀ (L : List GTok) (ks : List Tx), Srt ks → Srt (rputs ks L)
  | [], ks, h => h
  | t :: r, ks, h => by
    rw [rputs_cons]
    refine rputs_srt r _ ?_
    split
    · exact rput_srt _ _ h
    · exact h
theorem rputs_len : ∀ (L : List GTok) (ks : List Tx), (rputs ks L).length ≤ ks.length + L.length
  | [], ks => Nat.le_refl _
  | t :: r, ks => by
    rw [rputs_cons, List.length_cons]
    refine Nat.le_trans (rputs_len r _) ?_
    split
    · have := rput_len t.text ks; omega
    · omega
theorem rputs_mem (x : Tx) : ∀ (L : List GTok) (ks : List Tx), x ∈ rputs ks L ↔ x ∈ ks ∨ x ∈ (idents L).map GTok.text
  | [], ks => by simp [rputs, idents]
  | t :: r, ks => by
    rw [rputs_cons, rputs_mem x r, idents_cons]
    by_cases h : t.kind = 1
    · rw [if_pos h, if_pos h, rput_mem, List.map_cons, List.mem_cons]; exact ⟨fun h => h.elim (fun h => h.elim .inl (fun e => .inr (.inl e))) (fun h => .inr (.inr h)), fun h => h.elim (fun h => .inl (.inl h)) (fun h => h.elim (fun e => .inl (.inr e)) .inr)⟩
    · rw [if_neg h, if_neg h]
theorem rputs_setOf (L : List GTok) : rputs [] L = setOf L := srt_uniq (rputs_srt L [] List.Pairwise.nil) (setOf_srt L) (fun x => by rw [rputs_mem, setOf_mem]; simp)
/-! ### looks -/
theorem has_eq11 (l : List Tx) (x : Tx) (h : l.length ≤ 2000000) : emendref11_Has l x = some (decide (x ∈ l)) := by
  unfold emendref11_Has
  rw [loopS_find l (fun y => decide (y = x)) true h (by
    intro k hk
    unfold emendref11_Has_b2
    rw [if_pos (decide_eq_true (by omega)), ix_at hk, Option.bind_some]
    by_cases e : l[k] = x
    · rw [if_pos (decide_eq_true e), if_pos (decide_eq_true e)]
    · rw [if_neg (by simpa using e), if_neg (by simpa using e), chkT (by omega)]; rfl) (by
    unfold emendref11_Has_b2
    exact if_neg (by simp))]
  by_cases hx : x ∈ l
  · rw [if_pos (List.any_eq_true.2 ⟨x, hx, decide_eq_true rfl⟩), decide_eq_true hx]; rfl
  · rw [if_neg (by
      rw [List.any_eq_true]
      rintro ⟨y, hy, e⟩
      exact hx (of_decide_eq_true e ▸ hy)), decide_eq_false hx]; rfl
theorem same_eq11 (a b : List Tx) (h : a.length ≤ 9223372036854775806) : emendref11_Same a b = some (decide (a = b)) := by
  unfold emendref11_Same
  by_cases hl : a.length = b.length
  · rw [if_neg (by simp; omega)]
    rw [loopS_same (f := emendref11_Same_b2 a b) a b id false h hl (by
      intro k h1 h2
      unfold emendref11_Same_b2
      rw [if_pos (decide_eq_true (by omega)), ix_at h1, Option.bind_some, ix_at h2, Option.bind_some]
      by_cases e : a[k] = b[k]
      · rw [if_neg (by simpa using e), if_pos (by simpa using e), chkT (by omega)]; rfl
      · rw [if_pos (by simpa using e), if_neg (by simpa using e)]) (by
      unfold emendref11_Same_b2
      exact if_neg (by simp)), List.map_id, List.map_id, Option.bind_some]
    by_cases e : a = b
    · rw [if_pos e, decide_eq_true e]; rfl
    · rw [if_neg e, decide_eq_false e]
  · rw [if_pos (by simp; omega), decide_eq_false (fun e => hl (by rw [e]))]
end Go.Sh
