/-
  On which names a condition hangs; a name told; a new arena.
-/
import Derived.Test.YtkhgiieglpdejaaTells
set_option linter.unusedVariables false
set_option linter.unusedSimpArgs false
namespace Go.Proofs.Ytkhgiieglpdejaa
open Go Go.Vc Go.Vc.Bdd
attribute [local irreducible] WpC WpOps WpPi WpO Exact TCall VEnds

/-- a condition hangs on a name -/
def Hangs (ds : List Dec) (n i : Nat) : Prop := ∃ s : Asg, sem ds n (upd s i true) ≠ sem ds n (upd s i false)
theorem hangs_low {ds : List Dec} {n : Nat} (h : n ≤ 1) (i : Nat) : ¬ Hangs ds n i := by
  rintro ⟨s, hs⟩
  rcases (show n = 0 ∨ n = 1 by omega) with rfl | rfl <;> exact hs rfl
theorem hangs_step {v : Nat} {ds : List Dec} (w : WF v ds) {n : Nat} {d : Dec} (h2 : 2 ≤ n) (hd : ds[n]? = some d) (i : Nat) : Hangs ds n i ↔ i = d.name ∨ Hangs ds d.off i ∨ Hangs ds d.on i := by
  have hlt := (List.getElem?_eq_some_iff.1 hd).1
  have f := w.fine n d h2 hd
  have f1 := f.off
  have f2 := f.on
  have l1 : d.off < ds.length := by omega
  have l2 : d.on < ds.length := by omega
  constructor
  · rintro ⟨s, hs⟩
    by_cases hi : i = d.name
    · exact .inl hi
    · right
      rw [sem_step w h2 hd, sem_step w h2 hd] at hs
      have e : ∀ b, upd s i b d.name = s d.name := fun b => by simp [upd, Ne.symm hi]
      rw [e, e] at hs
      cases hb : s d.name with
      | true => rw [hb] at hs; exact .inr ⟨s, hs⟩
      | false => rw [hb] at hs; exact .inl ⟨s, hs⟩
  · intro h
    by_cases hi : i = d.name
    · subst hi
      -- the sides are two
      have : ∃ s, sem ds d.on s ≠ sem ds d.off s := by
        refine Classical.byContradiction fun hn => f.ne ?_
        refine (one_of_same w l2 l1 fun s => Classical.byContradiction fun hs => hn ⟨s, hs⟩).symm
      obtain ⟨s, hs⟩ := this
      refine ⟨s, ?_⟩
      rw [sem_step w h2 hd, sem_step w h2 hd, upd_same, upd_same]
      simp only [if_true, Bool.false_eq_true, if_false]
      rw [sem_upd w l2 f.onn, sem_upd w l1 f.offn]
      exact hs
    · have comm : ∀ (s : Asg) a b, upd (upd s d.name a) i b = upd (upd s i b) d.name a := fun s a b => by
        funext j
        simp only [upd]
        by_cases h1 : j = i
        · have h2 : ¬ j = d.name := fun h => hi (h1.symm.trans h)
          rw [if_pos h1, if_neg h2, if_pos h1]
        · rw [if_neg h1, if_neg h1]
      rcases h with h | h | h
      · exact (hi h).elim
      · obtain ⟨s, hs⟩ := h
        refine ⟨upd s d.name false, ?_⟩
        rw [comm, comm, sem_step w h2 hd, sem_step w h2 hd, upd_same, upd_same]
        simp only [Bool.false_eq_true, if_false]
        rw [sem_upd w l1 f.offn, sem_upd w l1 f.offn]
        exact hs
      · obtain ⟨s, hs⟩ := h
        refine ⟨upd s d.name true, ?_⟩
        rw [comm, comm, sem_step w h2 hd, sem_step w h2 hd, upd_same, upd_same]
        simp only [if_true]
        rw [sem_upd w l2 f.onn, sem_upd w l2 f.onn]
        exact hs

/-- how much is left to look at -/
def wt (v : Nat) (ds : List Dec) (n : Nat) : Nat := 2 ^ (v - nm v ds n + 1) - 1
def wts (v : Nat) (ds : List Dec) : List Nat → Nat
  | [] => 0
  | n :: l => wt v ds n + wts v ds l
theorem wts_append (v : Nat) (ds : List Dec) : ∀ a b, wts v ds (a ++ b) = wts v ds a + wts v ds b
  | [], b => by simp [wts]
  | n :: a, b => by simp only [List.cons_append, wts, wts_append v ds a b]; omega
theorem wt_pos (v : Nat) (ds : List Dec) (n : Nat) : 1 ≤ wt v ds n := by
  unfold wt
  have : 2 ^ 1 ≤ 2 ^ (v - nm v ds n + 1) := Nat.pow_le_pow_right (by omega) (by omega)
  omega
theorem wts_len (v : Nat) (ds : List Dec) : ∀ l, l.length ≤ wts v ds l
  | [] => by simp [wts]
  | n :: l => by have := wts_len v ds l; have := wt_pos v ds n; simp only [List.length_cons, wts]; omega
theorem wt_step {v : Nat} {ds : List Dec} (w : WF v ds) {n : Nat} {d : Dec} (h2 : 2 ≤ n) (hd : ds[n]? = some d) : wt v ds d.off + wt v ds d.on + 1 ≤ wt v ds n := by
  have f := w.fine n d h2 hd
  have f1 := f.offn
  have f2 := f.onn
  have f3 := f.name
  have e : nm v ds n = d.name := nm_some hd
  have key : ∀ m, d.name < nm v ds m → wt v ds m ≤ 2 ^ (v - d.name) - 1 := fun m hm => by
    unfold wt
    have := nm_le w m
    have : 2 ^ (v - nm v ds m + 1) ≤ 2 ^ (v - d.name) := Nat.pow_le_pow_right (by omega) (by omega)
    omega
  have k1 := key _ f1
  have k2 := key _ f2
  have : wt v ds n = 2 ^ (v - d.name) * 2 - 1 := by unfold wt; rw [e, Nat.pow_succ]
  have h1 : 1 ≤ 2 ^ (v - d.name) := Nat.one_le_two_pow
  omega

abbrev nA (n : Nat) : List AV := [iA n]
theorem node_ek : ElemOk Try.prog 28 35 1 8 := ElemOk.of (by kernel_rfl)

theorem bdd_Only {H : Heap} {v : Nat} {ds : List Dec} {g ga c gm : Nat} {es : List (Value × AV)} (a : InA H v ds g ga c gm es) (hv : v ≤ 8) (n : Int) (hlen : ds.length ≤ 900000) :
    TCall Try.prog 15 [pA g, .lit (.int .i64 n)] H (fun x H' => (if 0 ≤ n ∧ n < ds.length then ∃ set, x = eA (iA set) 0 ∧ set < 2 ^ v ∧ ∀ i, set.testBit i = true ↔ Hangs ds n.toNat i else x = eA (iA 0) 10) ∧ H' = H) noE := by
  have h8 := pow8 hv
  refine TCall.up (TCall.body Try.func15 rfl rfl ?_)
  refine WpC.seqR (WpOps.ps rfl trivial (WpOps.nil ?_))
  refine WpC.seq ?_
  refine WpC.seqR ?_
  refine WpOps.ps rfl trivial ?_
  refine WpOps.consE rfl rfl (Exact.litSlice rfl rfl) ?_
  refine WpOps.consE rfl rfl (Exact.call rfl rfl rfl (bdd_right a [n] (by simp) (by omega))) ?_
  refine WpOps.at 11 (congrArg (fun b => AV.lit (.bool b)) (right1 ds.length n)) ?_
  refine WpOps.ps rfl trivial (WpOps.nil ?_)
  refine WpC.condN rfl ?_ ?_
  · intro hc
    refine WpC.seqR (WpOps.ps rfl trivial (WpOps.nil ?_))
    refine WpC.ret ?_
    refine VEnds.ret2 rfl rfl rfl ⟨_, _, Up.refl _ _, ?_, rfl⟩
    rw [if_neg hc]; rfl
  · intro hc
    obtain ⟨n, rfl⟩ : ∃ k : Nat, n = k := ⟨n.toNat, by omega⟩
    have hn : n < ds.length := by omega
    refine WpC.skip ?_
    refine WpC.seq ?_
    refine WpC.seqR ?_
    refine WpOps.ps rfl trivial ?_
    refine WpOps.consG rfl rfl (WpO.litSlice (e := 35) rfl rfl rfl fun gt hgt => ?_)
    refine WpOps.ps rfl trivial (WpOps.nil ?_)
    refine WpC.block ?_
    refine WpC.loopK (fun x : (List Nat × Nat × Nat) × Nat => [(6, .buf x.1.2.1 x.1.1.length x.1.2.2), (0, pA g), (4, iA x.2)])
      (fun x H' => H.le H' ∧ H x.1.2.1 = none ∧ (∃ es, H' x.1.2.1 = some (.row 35 1 es x.1.2.2) ∧ x.1.1.length ≤ es.length ∧ es.take x.1.1.length = x.1.1.map nA) ∧ x.2 < 2 ^ v ∧ (∀ m ∈ x.1.1, m < ds.length) ∧ wts v ds x.1.1 ≤ 1000 ∧
        ∀ i, Hangs ds n i ↔ x.2.testBit i = true ∨ ∃ m ∈ x.1.1, Hangs ds m i)
      (fun x => wts v ds x.1.1) (([n], gt, 1), 0) ⟨rfl, rfl, rfl, trivial⟩ ⟨Heap.set_drop hgt _, hgt, ⟨_, Heap.set_same _ _ _, by simp, rfl⟩, Nat.two_pow_pos v, (fun m hm => by simp at hm; omega), ?_, (fun i => by simp)⟩ ?_
    · have h1 : wt v ds n ≤ 2 ^ 9 - 1 := by
        unfold wt
        have : 2 ^ (v - nm v ds n + 1) ≤ 2 ^ 9 := Nat.pow_le_pow_right (by omega) (by omega)
        omega
      show wt v ds n + 0 ≤ 1000
      omega
    rintro ⟨⟨L, gs, c'⟩, set⟩ env H' ⟨hle, hgs, ⟨es', hrow, hles, htake⟩, hset, hmem, hwt, hang⟩
    dsimp only at hgs hrow hles htake hset hmem hwt hang ⊢
    have a' := a.le hle
    refine WpC.seq ?_
    refine WpC.seqR (WpOps.ps rfl trivial (WpOps.nil ?_))
    refine WpC.condP rfl ?_ ?_
    · intro hL
      have hL : 0 < L.length := by have : (0 : Int) < (L.length : Int) := hL
                                   omega
      obtain ⟨L, m, rfl⟩ : ∃ L' m, L = L' ++ [m] := ⟨L.dropLast, L.getLast (by intro h; subst h; simp at hL), (List.dropLast_concat_getLast _).symm⟩
      have hlen1 : (L ++ [m]).length = L.length + 1 := by simp
      have hmd : m < ds.length := hmem m (by simp)
      have hwl := wts_len v ds (L ++ [m])
      have hel : es'[L.length]? = some (nA m) := by
        have h1 : (es'.take (L ++ [m]).length)[L.length]? = es'[L.length]? := by rw [List.getElem?_take, if_pos (by omega)]
        rw [← h1, htake, List.map_append, List.getElem?_append_right (by simp)]; simp
      have htk : es'.take L.length = L.map nA := by
        have h1 : (es'.take (L ++ [m]).length).take L.length = es'.take L.length := by rw [List.take_take, Nat.min_eq_left (by omega)]
        rw [← h1, htake, List.map_append, List.take_left' (by simp)]
      have cut1 : (((L ++ [m]).length : Nat) : Int) - 1 = (L.length : Nat) := by rw [hlen1]; omega
      refine WpC.skip ?_
      refine WpC.block ?_
      refine WpC.seqD [.I, .I, .I, .I, .I, .S, .I, .I, .I, .I, .S] [0, 1, 2, 3, 4, 5, 6, 7, 8, 9, 10, 11, 12] (by kernel_rfl) (by kernel_rfl) ?_
      refine WpPi.ps rfl (by simp only [conj, inR]; omega) ?_
      refine WpPi.at 21 (congrArg (fun z => AV.lit (.int .i64 z)) cut1) ?_
      refine WpPi.consI rfl rfl rfl rfl (fun _ => Exact.indexAddr_buf (size := 1) rfl rfl rfl (by rw [hlen1]; exact Nat.lt_succ_self _) rfl rfl (by decide)) ?_
      refine WpPi.consS rfl rfl rfl rfl (Exact.load_row (i := L.length) (f := 0) rfl rfl hrow rfl (by decide) hel rfl) ?_
      refine WpPi.ps rfl (by simp only [conj, inR]; omega) ?_
      refine WpPi.at 27 (congrArg (fun z => AV.lit (.int .i64 z)) cut1) ?_
      refine WpPi.consS rfl rfl rfl rfl (Exact.slice_buf rfl rfl rfl hrow hles (by rw [hlen1]; exact Nat.le_succ _) rfl rfl (by decide)) ?_
      refine WpPi.ps rfl trivial (WpPi.nil ?_)
      refine WpC.seqR (WpOps.ps rfl trivial (WpOps.nil ?_))
      have hw1 : wts v ds (L ++ [m]) = wts v ds L + wt v ds m := by rw [wts_append]; rfl
      have hp := wt_pos v ds m
      refine WpC.condP rfl ?_ ?_
      · intro hm2
        have h2 : 2 ≤ m := by omega
        obtain ⟨d, hd⟩ : ∃ d, ds[m]? = some d := ⟨_, List.getElem?_eq_getElem hmd⟩
        have f := a.wf.fine m d h2 hd
        have f1 := f.off
        have f2 := f.on
        have f3 := f.name
        have hws := wt_step a.wf h2 hd
        refine WpC.seqR ?_
        refine WpOps.ps rfl trivial ?_
        refine WpOps.consE rfl rfl (Exact.load rfl rfl a'.box rfl rfl) ?_
        refine WpOps.ps rfl trivial ?_
        refine WpOps.consE rfl rfl (Exact.indexAddr_buf (size := 3) rfl rfl rfl hmd rfl rfl (by decide)) ?_
        refine WpOps.consE rfl rfl (Exact.load_row (i := m) (f := 0) rfl rfl a'.row rfl (by decide) (at_dec hd) rfl) ?_
        refine WpOps.consG rfl rfl (WpO.alloc rfl rfl fun gd hgd => ?_)
        refine WpOps.consG rfl rfl (WpO.init rfl rfl rfl rfl rfl rfl rfl rfl rfl ?_)
        refine WpOps.nil ?_
        obtain ⟨H1, e1⟩ : ∃ H1, H1 = H'.set gd (.cells 72 (encD d)) := ⟨_, rfl⟩
        refine WpC.heap e1.symm ?_
        have b1 : H1 gd = some (.cells 72 (encD d)) := by rw [e1]; exact Heap.set_same _ _ _
        have hle1 : H'.le H1 := by rw [e1]; exact Heap.set_drop hgd _
        have hrow1 := hle1 _ _ hrow
        refine WpC.seqR ?_
        refine WpOps.ps rfl trivial ?_
        refine WpOps.consE rfl rfl (Exact.load rfl rfl b1 rfl rfl) ?_
        refine WpOps.ps rfl (by simp only [conj]; omega) (WpOps.nil ?_)
        refine WpC.at 4 (congrArg (fun z => AV.lit (.int .i64 z)) (or_shl (s := set) (i := d.name) (by omega) (by omega))) ?_
        refine WpC.region ?_
        refine WpOps.ps rfl trivial ?_
        refine WpOps.consE rfl rfl (Exact.load rfl rfl b1 rfl rfl) ?_
        refine WpOps.ps rfl trivial ?_
        refine WpOps.consE rfl rfl (Exact.load rfl rfl b1 rfl rfl) ?_
        refine WpOps.consE rfl rfl (Exact.litSlice rfl rfl) ?_
        refine WpOps.consG rfl rfl (WpO.append rfl node_ek rfl hrow1 (by omega) rfl (.rows _) (by simp [AV.one, Value.oneCell']) (by simp; omega) (by simp; omega) fun g' c2 hg' hc2 => ?_)
        refine WpOps.ps rfl trivial (WpOps.nil ?_)
        have hg0 : H g' = none := by
          rcases hg' with rfl | h
          · exact hgs
          · exact Heap.le_none (Heap.le_trans hle hle1) h
        refine ⟨((L ++ [d.off, d.on], g', c2), set ||| 2 ^ d.name), ?_, ⟨?_, rfl, rfl, trivial⟩, ?_, hg0, ⟨_, Heap.set_same _ _ _, ?_, ?_⟩, ?_, ?_, ?_, ?_⟩
        · show wts v ds (L ++ [d.off, d.on]) < wts v ds (L ++ [m])
          rw [wts_append, hw1]; simp only [wts]; omega
        · show AV.own _ _ = AV.own (L ++ [d.off, d.on]).length _
          rw [List.length_append]; rfl
        · intro k o hk
          rw [Heap.set_ne _ _ (fun e => by rw [e, hg0] at hk; cases hk)]
          simp only [Heap.del]
          rw [if_neg (fun e => by rw [e, hgs] at hk; cases hk)]
          exact hle1 _ _ (hle _ _ hk)
        · simp only [List.length_append, List.length_take]; simp; omega
        · rw [htk, List.take_of_length_le (by simp), List.map_append]; rfl
        · exact Nat.or_lt_two_pow hset (pow_lt f3)
        · intro k hk
          simp only [List.mem_append, List.mem_cons, List.not_mem_nil, or_false] at hk
          rcases hk with h | rfl | rfl
          · exact hmem k (by simp [h])
          · omega
          · omega
        · show wts v ds (L ++ [d.off, d.on]) ≤ 1000
          rw [wts_append]; simp only [wts]; omega
        · intro i
          rw [hang i, Nat.testBit_or, Nat.testBit_two_pow]
          constructor
          · rintro (h | ⟨k, hk, h⟩)
            · left; rw [h]; rfl
            · rcases List.mem_append.1 hk with hk | hk
              · exact .inr ⟨k, by simp [hk], h⟩
              · simp at hk; subst hk
                rcases (hangs_step a.wf h2 hd i).1 h with rfl | h | h
                · left; simp
                · exact .inr ⟨d.off, by simp, h⟩
                · exact .inr ⟨d.on, by simp, h⟩
          · rintro (h | ⟨k, hk, h⟩)
            · rw [Bool.or_eq_true] at h
              rcases h with h | h
              · exact .inl h
              · have h : d.name = i := by simpa using h
                exact .inr ⟨m, by simp, (hangs_step a.wf h2 hd i).2 (.inl h.symm)⟩
            · simp only [List.mem_append, List.mem_cons, List.not_mem_nil, or_false] at hk
              rcases hk with hk | rfl | rfl
              · exact .inr ⟨k, by simp [hk], h⟩
              · exact .inr ⟨m, by simp, (hangs_step a.wf h2 hd i).2 (.inr (.inl h))⟩
              · exact .inr ⟨m, by simp, (hangs_step a.wf h2 hd i).2 (.inr (.inr h))⟩
      · intro hm2
        have h1 : m ≤ 1 := by omega
        refine WpC.skip ?_
        refine ⟨((L, gs, c'), set), ?_, ⟨rfl, rfl, rfl, trivial⟩, hle, hgs, ⟨es', hrow, by show L.length ≤ es'.length; omega, htk⟩, hset, fun k hk => hmem k (by simp [hk]), by show wts v ds L ≤ 1000; omega, fun i => ?_⟩
        · show wts v ds L < wts v ds (L ++ [m]); omega
        · rw [hang i]
          constructor
          · rintro (h | ⟨k, hk, h⟩)
            · exact .inl h
            · rcases List.mem_append.1 hk with hk | hk
              · exact .inr ⟨k, hk, h⟩
              · simp at hk; subst hk; exact (hangs_low h1 i h).elim
          · rintro (h | ⟨k, hk, h⟩)
            · exact .inl h
            · exact .inr ⟨k, by simp [hk], h⟩
    · intro hL
      have hL : L = [] := by
        refine List.eq_nil_of_length_eq_zero ?_
        have : ¬ (0 : Int) < (L.length : Int) := hL
        omega
      subst hL
      refine WpC.exit ?_
      refine WpC.seqR (WpOps.ps rfl trivial (WpOps.nil ?_))
      refine WpC.ret ?_
      refine VEnds.ret2 rfl rfl rfl ⟨_, _, Up.drop hle _, ?_, rfl⟩
      rw [if_pos hc]
      exact ⟨set, rfl, hset, fun i => by rw [Int.toNat_natCast, hang i]; simp⟩
end Go.Proofs.Ytkhgiieglpdejaa
