/-
  What the document's functions on tables of truth compute: contracts in the calculus.
-/
import Derived.Test.YtkhgiieglpdejaaChecked
import Derived.Test.YtkhgiieglpdejaaVs
set_option linter.unusedVariables false
set_option linter.unusedSimpArgs false
namespace Go.Proofs.Ytkhgiieglpdejaa
open Go Go.Vc
attribute [local irreducible] WpC WpOps WpPi WpO Exact TCall VEnds

def bl (b : Bool) : List AV := [.lit (.bool b)]
/-- a table of truth -/
def tb (n : Nat) (f : Nat → Bool) : AV := .rows 1 ((List.range n).map fun s => bl (f s))

theorem wrap64 {n : Nat} (h : n < 9223372036854775808) : IntKind.i64.wrap (n : Int) = n := by
  unfold IntKind.wrap; simp [IntKind.bits, IntKind.signed]; omega
theorem shl1 {v : Nat} (h : v ≤ 8) : IntKind.i64.wrap (1 * 2 ^ (min (Int.toNat (v : Int)) (IntKind.bits .i64))) = ((2 ^ v : Nat) : Int) := by
  have : v = 0 ∨ v = 1 ∨ v = 2 ∨ v = 3 ∨ v = 4 ∨ v = 5 ∨ v = 6 ∨ v = 7 ∨ v = 8 := by omega
  rcases this with rfl | rfl | rfl | rfl | rfl | rfl | rfl | rfl | rfl <;> rfl
theorem pow8 {v : Nat} (h : v ≤ 8) : 2 ^ v ≤ 256 := Nat.pow_le_pow_right (n := 2) (by omega) h
theorem shr1 {v s : Nat} (h : v ≤ 8) : (s : Int).fdiv (2 ^ (min (Int.toNat (v : Int)) (IntKind.bits .i64))) = ((s >>> v : Nat) : Int) := by
  have e : min (Int.toNat (v : Int)) (IntKind.bits .i64) = v := by simp [IntKind.bits]; omega
  rw [e, Nat.shiftRight_eq_div_pow]
  have := Int.ofNat_fdiv s (2 ^ v)
  simpa using this.symm
theorem and1 {s : Nat} (h : s < 9223372036854775808) : IntKind.i64.wrap (((BitVec.ofInt (IntKind.bits .i64) (s : Int) &&& BitVec.ofInt (IntKind.bits .i64) 1).toNat : Nat) : Int) = ((s % 2 : Nat) : Int) := by
  have e : (BitVec.ofInt (IntKind.bits .i64) (s : Int) &&& BitVec.ofInt (IntKind.bits .i64) 1).toNat = s % 2 := by
    show (BitVec.ofInt 64 (s : Int) &&& BitVec.ofInt 64 1).toNat = s % 2
    rw [BitVec.toNat_and, BitVec.toNat_ofInt, BitVec.toNat_ofInt]
    have : ((s : Int) % ((2 ^ 64 : Nat) : Int)).toNat = s := by omega
    rw [this]
    exact Nat.and_one_is_mod s
  rw [e]
  exact wrap64 (by omega)
theorem or1 {a b : Nat} (ha : a < 2 ^ 62) (hb : b < 2 ^ 62) : IntKind.i64.wrap (((BitVec.ofInt (IntKind.bits .i64) (a : Int) ||| BitVec.ofInt (IntKind.bits .i64) (b : Int)).toNat : Nat) : Int) = ((a ||| b : Nat) : Int) := by
  have e : (BitVec.ofInt (IntKind.bits .i64) (a : Int) ||| BitVec.ofInt (IntKind.bits .i64) (b : Int)).toNat = a ||| b := by
    show (BitVec.ofInt 64 (a : Int) ||| BitVec.ofInt 64 (b : Int)).toNat = a ||| b
    rw [BitVec.toNat_or, BitVec.toNat_ofInt, BitVec.toNat_ofInt]
    have h1 : ((a : Int) % ((2 ^ 64 : Nat) : Int)).toNat = a := by omega
    have h2 : ((b : Int) % ((2 ^ 64 : Nat) : Int)).toNat = b := by omega
    rw [h1, h2]
  rw [e]
  exact wrap64 (by have := Nat.or_lt_two_pow ha hb; omega)
theorem xor1 {a b : Nat} (ha : a < 2 ^ 62) (hb : b < 2 ^ 62) : IntKind.i64.wrap (((BitVec.ofInt (IntKind.bits .i64) (a : Int) ^^^ BitVec.ofInt (IntKind.bits .i64) (b : Int)).toNat : Nat) : Int) = ((a ^^^ b : Nat) : Int) := by
  have e : (BitVec.ofInt (IntKind.bits .i64) (a : Int) ^^^ BitVec.ofInt (IntKind.bits .i64) (b : Int)).toNat = a ^^^ b := by
    show (BitVec.ofInt 64 (a : Int) ^^^ BitVec.ofInt 64 (b : Int)).toNat = a ^^^ b
    rw [BitVec.toNat_xor, BitVec.toNat_ofInt, BitVec.toNat_ofInt]
    have h1 : ((a : Int) % ((2 ^ 64 : Nat) : Int)).toNat = a := by omega
    have h2 : ((b : Int) % ((2 ^ 64 : Nat) : Int)).toNat = b := by omega
    rw [h1, h2]
  rw [e]
  exact wrap64 (by have := Nat.xor_lt_two_pow ha hb; omega)
theorem bit1 {s i : Nat} (hs : s < 9223372036854775808) (hi : i ≤ 8) : decide (IntKind.i64.wrap (((BitVec.ofInt (IntKind.bits .i64) ((s : Int).fdiv (2 ^ (min (Int.toNat (i : Int)) (IntKind.bits .i64)))) &&& BitVec.ofInt (IntKind.bits .i64) 1).toNat : Nat) : Int) = 1) = s.testBit i := by
  rw [shr1 hi, and1 (by have := Nat.shiftRight_le s i; omega)]
  rw [Nat.testBit, Nat.and_comm, Nat.and_one_is_mod]
  have : (s >>> i) % 2 = 0 ∨ (s >>> i) % 2 = 1 := by omega
  rcases this with h | h <;> rw [h] <;> rfl

theorem tab_ek : ElemOk Try.prog 39 4 1 1 := ElemOk.of (by kernel_rfl)
theorem map_range_succ {α : Type} (f : Nat → α) (i : Nat) : (List.range (i + 1)).map f = (List.range i).map f ++ [f i] := by rw [List.range_succ, List.map_append]; rfl

theorem ref_var {v i : Nat} (hv : v ≤ 8) (hi : i ≤ 8) (H : Heap) : TCall Try.prog 39 [.lit (.int .i64 v), .lit (.int .i64 i)] H (fun x H' => x = tb (2 ^ v) (fun s => s.testBit i) ∧ H' = H) noE := by
  have h8 := pow8 hv
  refine TCall.up (TCall.body Try.func39 rfl rfl ?_)
  refine WpC.seqR (WpOps.ps rfl trivial (WpOps.nil ?_))
  refine WpC.seqR (WpOps.ps rfl trivial (WpOps.nil ?_))
  refine WpC.seq ?_
  refine WpC.seqR (WpOps.ps rfl trivial (WpOps.nil ?_))
  refine WpC.block ?_
  refine WpC.loopK (fun x : Nat × Option (Nat × Nat) => [(6, .lit (.int .i64 x.1)), (0, .lit (.int .i64 v)), (5, .own x.1 x.2), (1, .lit (.int .i64 i))]) (fun x H' => x.1 ≤ 2 ^ v ∧ Own H 4 1 ((List.range x.1).map fun s => bl (s.testBit i)) x.1 x.2 H') (fun x => 2 ^ v - x.1) (0, none) ⟨rfl, rfl, rfl, rfl, trivial⟩ ⟨Nat.zero_le _, .nil rfl⟩ ?_
  rintro ⟨k, sl⟩ env H' ⟨hk, own⟩
  refine WpC.seq ?_
  refine WpC.seqR (WpOps.ps rfl (by simp only [conj]; omega) (WpOps.nil ?_))
  refine WpC.condP rfl ?_ ?_
  · intro hc
    rw [shl1 hv] at hc
    have hc : k < 2 ^ v := Int.ofNat_lt.1 hc
    refine WpC.skip ?_
    refine WpC.seq ?_
    refine WpC.block ?_
    refine WpC.region (WpOps.ps rfl (by simp only [conj]; omega) ?_)
    refine WpOps.at 18 (congrArg (fun b => AV.lit (.bool b)) (bit1 (i := i) (s := k) (by omega) hi)) ?_
    refine WpOps.consE rfl rfl (Exact.litSlice rfl rfl) ?_
    refine WpOps.consG rfl rfl (WpO.push rfl tab_ek rfl own rfl (.rows _) (by simp [AV.one, Value.oneCell']) (by simp) (by simp; omega) (by simp; omega) fun p' H' own' => ?_)
    refine WpOps.ps rfl trivial (WpOps.nil ?_)
    refine WpC.region (WpOps.ps rfl (by simp only [conj, inR]; omega) (WpOps.nil ?_))
    exact ⟨(k + 1, p'), by simp only; omega, ⟨rfl, rfl, rfl, rfl, trivial⟩, hc, own'.eq (map_range_succ _ _).symm⟩
  · intro hc
    rw [shl1 hv] at hc
    have hc : k = 2 ^ v := by have := fun h => hc (Int.ofNat_lt.2 h); omega
    subst hc
    refine WpC.exit ?_
    refine WpC.seqR (WpOps.ps rfl trivial (WpOps.nil ?_))
    refine WpC.ret ?_
    refine VEnds.ret1 rfl rfl ?_
    exact ⟨_, _, own.up, rfl, rfl⟩

theorem ref_same {v : Nat} {to : Bool} (hv : v ≤ 8) (H : Heap) : TCall Try.prog 31 [.lit (.int .i64 v), .lit (.bool to)] H (fun x H' => x = tb (2 ^ v) (fun _ => to) ∧ H' = H) noE := by
  have h8 := pow8 hv
  refine TCall.up (TCall.body Try.func31 rfl rfl ?_)
  refine WpC.seqR (WpOps.ps rfl trivial (WpOps.nil ?_))
  refine WpC.seqR (WpOps.ps rfl trivial (WpOps.nil ?_))
  refine WpC.seq ?_
  refine WpC.seqR (WpOps.ps rfl trivial (WpOps.nil ?_))
  refine WpC.block ?_
  refine WpC.loopK (fun x : Nat × Option (Nat × Nat) => [(6, .lit (.int .i64 x.1)), (0, .lit (.int .i64 v)), (5, .own x.1 x.2), (1, .lit (.bool to))]) (fun x H' => x.1 ≤ 2 ^ v ∧ Own H 4 1 ((List.range x.1).map fun _ => bl to) x.1 x.2 H') (fun x => 2 ^ v - x.1) (0, none) ⟨rfl, rfl, rfl, rfl, trivial⟩ ⟨Nat.zero_le _, .nil rfl⟩ ?_
  rintro ⟨k, sl⟩ env H' ⟨hk, own⟩
  refine WpC.seq ?_
  refine WpC.seqR (WpOps.ps rfl (by simp only [conj]; omega) (WpOps.nil ?_))
  refine WpC.condP rfl ?_ ?_
  · intro hc
    rw [shl1 hv] at hc
    have hc : k < 2 ^ v := Int.ofNat_lt.1 hc
    refine WpC.skip ?_
    refine WpC.seq ?_
    refine WpC.block ?_
    refine WpC.region (WpOps.ps rfl trivial ?_)
    refine WpOps.consE rfl rfl (Exact.litSlice rfl rfl) ?_
    refine WpOps.consG rfl rfl (WpO.push rfl tab_ek rfl own rfl (.rows _) (by simp [AV.one, Value.oneCell']) (by simp) (by simp; omega) (by simp; omega) fun p' H' own' => ?_)
    refine WpOps.ps rfl trivial (WpOps.nil ?_)
    refine WpC.region (WpOps.ps rfl (by simp only [conj, inR]; omega) (WpOps.nil ?_))
    exact ⟨(k + 1, p'), by simp only; omega, ⟨rfl, rfl, rfl, rfl, trivial⟩, hc, own'.eq (map_range_succ _ _).symm⟩
  · intro hc
    rw [shl1 hv] at hc
    have hc : k = 2 ^ v := by have := fun h => hc (Int.ofNat_lt.2 h); omega
    subst hc
    refine WpC.exit ?_
    refine WpC.seqR (WpOps.ps rfl trivial (WpOps.nil ?_))
    refine WpC.ret ?_
    refine VEnds.ret1 rfl rfl ?_
    exact ⟨_, _, own.up, rfl, rfl⟩

theorem ltlen {α β : Type} {l : List α} {f : α → β} {k : Nat} : ((k : Int) < (((l.map f).length : Nat) : Int)) ↔ k < l.length := by rw [List.length_map]; exact Int.ofNat_lt

theorem ref_ite {n : Nat} {c p q : Nat → Bool} (hn : n ≤ 256) (H : Heap) : TCall Try.prog 40 [tb n c, tb n p, tb n q] H (fun x H' => x = tb n (fun s => if c s then p s else q s) ∧ H' = H) noE := by
  refine TCall.up (TCall.body Try.func40 rfl rfl ?_)
  refine WpC.seqR (WpOps.ps rfl trivial (WpOps.nil ?_))
  refine WpC.seqR (WpOps.ps rfl trivial (WpOps.nil ?_))
  refine WpC.seq ?_
  refine WpC.seqR (WpOps.ps rfl trivial (WpOps.nil ?_))
  refine WpC.block ?_
  refine WpC.loopK (fun x : Nat × Option (Nat × Nat) => [(8, .lit (.int .i64 x.1)), (0, tb n c), (7, .own x.1 x.2), (1, tb n p), (2, tb n q)]) (fun x H' => x.1 ≤ n ∧ Own H 4 1 ((List.range x.1).map fun s => bl (if c s then p s else q s)) x.1 x.2 H') (fun x => n - x.1) (0, none) ⟨rfl, rfl, rfl, rfl, rfl, trivial⟩ ⟨Nat.zero_le _, .nil rfl⟩ ?_
  rintro ⟨k, sl⟩ env H' ⟨hk, own⟩
  refine WpC.seq ?_
  refine WpC.seqR (WpOps.ps rfl trivial (WpOps.nil ?_))
  refine WpC.condP rfl ?_ ?_
  · intro hc
    have hc : k < n := by have := ltlen.1 hc; simpa using this
    have hr : (List.range n)[k]? = some k := List.getElem?_range hc
    refine WpC.skip ?_
    refine WpC.seq ?_
    refine WpC.block ?_
    refine WpC.region ?_
    refine WpOps.pn 1 rfl trivial ?_
    refine WpOps.cutB 23 38 (.lit (.bool (if c k then p k else q k))) rfl ?_ ?_
    · refine WpOps.ps rfl trivial ?_
      refine WpOps.consE rfl rfl (Exact.indexAddr_rows rfl rfl rfl (map_at hr) rfl rfl (by decide)) ?_
      refine WpOps.consE rfl rfl (Exact.load_rop rfl rfl rfl) ?_
      refine WpOps.split 19 rfl ?_ ?_
      · intro h1
        refine WpOps.ps rfl trivial ?_
        refine WpOps.consE rfl rfl (Exact.indexAddr_rows rfl rfl rfl (map_at hr) rfl rfl (by decide)) ?_
        refine WpOps.consE rfl rfl (Exact.load_rop rfl rfl rfl) ?_
        refine WpOps.split 24 rfl ?_ ?_
        · intro h2
          refine WpOps.ps rfl trivial (WpOps.nil ?_)
          exact ⟨by rw [h1, h2]; rfl, rfl⟩
        · intro h2
          refine WpOps.ps rfl trivial ?_
          refine WpOps.consE rfl rfl (Exact.indexAddr_rows rfl rfl rfl (map_at hr) rfl rfl (by decide)) ?_
          refine WpOps.consE rfl rfl (Exact.load_rop rfl rfl rfl) ?_
          refine WpOps.at 30 (congrArg (fun b => AV.lit (.bool b)) h1) ?_
          refine WpOps.ps rfl trivial (WpOps.nil ?_)
          exact ⟨by rw [h1, h2]; rfl, rfl⟩
      · intro h1
        refine WpOps.ps rfl trivial ?_
        refine WpOps.consE rfl rfl (Exact.indexAddr_rows rfl rfl rfl (map_at hr) rfl rfl (by decide)) ?_
        refine WpOps.consE rfl rfl (Exact.load_rop rfl rfl rfl) ?_
        refine WpOps.at 30 (congrArg (fun b => AV.lit (.bool b)) h1) ?_
        refine WpOps.ps rfl trivial ?_
        refine WpOps.consE rfl rfl (Exact.indexAddr_rows rfl rfl rfl (map_at hr) rfl rfl (by decide)) ?_
        refine WpOps.consE rfl rfl (Exact.load_rop rfl rfl rfl) ?_
        refine WpOps.ps rfl trivial (WpOps.nil ?_)
        exact ⟨by rw [h1]; rfl, rfl⟩
    intro env0
    refine WpOps.consE rfl rfl (Exact.litSlice rfl rfl) ?_
    refine WpOps.consG rfl rfl (WpO.push rfl tab_ek rfl own rfl (.rows _) (by simp [AV.one, Value.oneCell']) (by simp) (by simp; omega) (by simp; omega) fun p' H' own' => ?_)
    refine WpOps.ps rfl trivial (WpOps.nil ?_)
    refine WpC.region (WpOps.ps rfl (by simp only [conj, inR]; omega) (WpOps.nil ?_))
    exact ⟨(k + 1, p'), by simp only; omega, ⟨rfl, rfl, rfl, rfl, rfl, trivial⟩, hc, own'.eq (map_range_succ _ _).symm⟩
  · intro hc
    have hc : k = n := by have := fun h => hc (ltlen.2 h); simp at this; omega
    subst hc
    refine WpC.exit ?_
    refine WpC.seqR (WpOps.ps rfl trivial (WpOps.nil ?_))
    refine WpC.ret ?_
    refine VEnds.ret1 rfl rfl ?_
    exact ⟨_, _, own.up, rfl, rfl⟩

def withBit (s i : Nat) (to : Bool) : Nat := if to then s ||| 2 ^ i else (s ||| 2 ^ i) - 2 ^ i
theorem or_shl {s i : Nat} (hs : s < 2 ^ 62) (hi : i ≤ 8) : IntKind.i64.wrap (((BitVec.ofInt (IntKind.bits .i64) (s : Int) ||| BitVec.ofInt (IntKind.bits .i64) (IntKind.i64.wrap (1 * 2 ^ (min (Int.toNat (i : Int)) (IntKind.bits .i64))))).toNat : Nat) : Int) = ((s ||| 2 ^ i : Nat) : Int) := by
  rw [shl1 hi, or1 hs (by have := pow8 hi; omega)]
theorem xor_shl {s i : Nat} (hs : s < 2 ^ 62) (hi : i ≤ 8) : IntKind.i64.wrap (((BitVec.ofInt (IntKind.bits .i64) (s : Int) ^^^ BitVec.ofInt (IntKind.bits .i64) (IntKind.i64.wrap (1 * 2 ^ (min (Int.toNat (i : Int)) (IntKind.bits .i64))))).toNat : Nat) : Int) = ((s ^^^ 2 ^ i : Nat) : Int) := by
  rw [shl1 hi, xor1 hs (by have := pow8 hi; omega)]
theorem pow_lt {i v : Nat} (h : i < v) : 2 ^ i < 2 ^ v := Nat.pow_lt_pow_right (by omega) h

theorem ref_restrict {v i : Nat} {f : Nat → Bool} {to : Bool} (hv : v ≤ 8) (hi : i < v) (H : Heap) : TCall Try.prog 41 [tb (2 ^ v) f, .lit (.int .i64 i), .lit (.bool to)] H (fun x H' => x = tb (2 ^ v) (fun s => f (withBit s i to)) ∧ H' = H) noE := by
  have h8 := pow8 hv
  have hi8 : i ≤ 8 := by omega
  have hiv := pow_lt hi
  refine TCall.up (TCall.body Try.func41 rfl rfl ?_)
  refine WpC.seqR (WpOps.ps rfl trivial (WpOps.nil ?_))
  refine WpC.seqR (WpOps.ps rfl trivial (WpOps.nil ?_))
  refine WpC.seq ?_
  refine WpC.seqR (WpOps.ps rfl trivial (WpOps.nil ?_))
  refine WpC.block ?_
  refine WpC.loopK (fun x : Nat × Option (Nat × Nat) => [(8, .lit (.int .i64 x.1)), (0, tb (2 ^ v) f), (1, .lit (.int .i64 i)), (2, .lit (.bool to)), (7, .own x.1 x.2)]) (fun x H' => x.1 ≤ 2 ^ v ∧ Own H 4 1 ((List.range x.1).map fun s => bl (f (withBit s i to))) x.1 x.2 H') (fun x => 2 ^ v - x.1) (0, none) ⟨rfl, rfl, rfl, rfl, rfl, trivial⟩ ⟨Nat.zero_le _, .nil rfl⟩ ?_
  rintro ⟨k, sl⟩ env H' ⟨hk, own⟩
  refine WpC.seq ?_
  refine WpC.seqR (WpOps.ps rfl trivial (WpOps.nil ?_))
  refine WpC.condP rfl ?_ ?_
  · intro hc
    have hc : k < 2 ^ v := by have := ltlen.1 hc; simpa using this
    have hor : k ||| 2 ^ i < 2 ^ v := Nat.or_lt_two_pow hc hiv
    have hle : 2 ^ i ≤ k ||| 2 ^ i := Nat.right_le_or
    refine WpC.skip ?_
    refine WpC.seq ?_
    refine WpC.block ?_
    refine WpC.seqR (WpOps.ps rfl (by simp only [conj, inR]; omega) (WpOps.nil ?_))
    refine WpC.at 9 (congrArg (fun z => AV.lit (.int .i64 z)) (or_shl (s := k) (i := i) (by omega) hi8)) ?_
    refine WpC.seq ?_
    refine WpC.seqR (WpOps.ps rfl trivial (WpOps.nil ?_))
    refine WpC.condB rfl ?_ ?_
    · intro ht
      have ht : to = false := by simpa using ht
      subst ht
      refine WpC.region (WpOps.ps rfl (by simp only [conj, inR, shl1 hi8]; generalize k ||| 2 ^ i = m at hor hle ⊢; generalize 2 ^ i = q at *; omega) (WpOps.nil ?_))
      have hw : ((k ||| 2 ^ i : Nat) : Int) - IntKind.i64.wrap (1 * 2 ^ (min (Int.toNat (i : Int)) (IntKind.bits .i64))) = ((withBit k i false : Nat) : Int) := by rw [shl1 hi8]; show _ = (((k ||| 2 ^ i) - 2 ^ i : Nat) : Int); exact (Int.ofNat_sub hle).symm
      have hr : (List.range (2 ^ v))[withBit k i false]? = some (withBit k i false) := List.getElem?_range (Nat.lt_of_le_of_lt (Nat.sub_le _ _) hor)
      refine WpC.at 9 (congrArg (fun z => AV.lit (.int .i64 z)) hw) ?_
      refine WpC.region ?_
      refine WpOps.ps rfl trivial ?_
      refine WpOps.consE rfl rfl (Exact.indexAddr_rows rfl rfl rfl (map_at hr) rfl rfl (by decide)) ?_
      refine WpOps.consE rfl rfl (Exact.load_rop rfl rfl rfl) ?_
      refine WpOps.consE rfl rfl (Exact.litSlice rfl rfl) ?_
      refine WpOps.consG rfl rfl (WpO.push rfl tab_ek rfl own rfl (.rows _) (by simp [AV.one, Value.oneCell']) (by simp) (by simp; omega) (by simp; omega) fun p' H' own' => ?_)
      refine WpOps.ps rfl trivial (WpOps.nil ?_)
      refine WpC.region (WpOps.ps rfl (by simp only [conj, inR]; omega) (WpOps.nil ?_))
      exact ⟨(k + 1, p'), by simp only; omega, ⟨rfl, rfl, rfl, rfl, rfl, trivial⟩, hc, own'.eq (map_range_succ _ _).symm⟩
    · intro ht
      have ht : to = true := by simpa using ht
      subst ht
      have hr : (List.range (2 ^ v))[withBit k i true]? = some (withBit k i true) := List.getElem?_range hor
      refine WpC.skip ?_
      refine WpC.region ?_
      refine WpOps.ps rfl trivial ?_
      refine WpOps.consE rfl rfl (Exact.indexAddr_rows rfl rfl rfl (map_at hr) rfl rfl (by decide)) ?_
      refine WpOps.consE rfl rfl (Exact.load_rop rfl rfl rfl) ?_
      refine WpOps.consE rfl rfl (Exact.litSlice rfl rfl) ?_
      refine WpOps.consG rfl rfl (WpO.push rfl tab_ek rfl own rfl (.rows _) (by simp [AV.one, Value.oneCell']) (by simp) (by simp; omega) (by simp; omega) fun p' H' own' => ?_)
      refine WpOps.ps rfl trivial (WpOps.nil ?_)
      refine WpC.region (WpOps.ps rfl (by simp only [conj, inR]; omega) (WpOps.nil ?_))
      exact ⟨(k + 1, p'), by simp only; omega, ⟨rfl, rfl, rfl, rfl, rfl, trivial⟩, hc, own'.eq (map_range_succ _ _).symm⟩
  · intro hc
    have hc : k = 2 ^ v := by have := fun h => hc (ltlen.2 h); simp at this; omega
    subst hc
    refine WpC.exit ?_
    refine WpC.seqR (WpOps.ps rfl trivial (WpOps.nil ?_))
    refine WpC.ret ?_
    refine VEnds.ret1 rfl rfl ?_
    exact ⟨_, _, own.up, rfl, rfl⟩

/-- the least place below n where f holds -/
def leastFrom (f : Nat → Bool) : Nat → Nat → Option Nat
  | 0, _ => none
  | n + 1, k => if f k then some k else leastFrom f n (k + 1)
def satOf (n : Nat) (f : Nat → Bool) : AV := match leastFrom f n 0 with
  | some k => .tup [.lit (.int .i64 k), .lit (.bool true)]
  | none => .tup [.lit (.int .i64 0), .lit (.bool false)]
theorem leastFrom_step {f : Nat → Bool} {n k : Nat} (h : k < n) (hf : f k = false) : leastFrom f (n - k) k = leastFrom f (n - (k + 1)) (k + 1) := by
  obtain ⟨m, rfl⟩ : ∃ m, n = k + 1 + m := ⟨n - (k + 1), by omega⟩
  rw [show k + 1 + m - k = m + 1 by omega, show k + 1 + m - (k + 1) = m by omega, leastFrom, hf]; rfl
theorem leastFrom_hit {f : Nat → Bool} {n k : Nat} (h : k < n) (hf : f k = true) : leastFrom f (n - k) k = some k := by
  obtain ⟨m, rfl⟩ : ∃ m, n = k + 1 + m := ⟨n - (k + 1), by omega⟩
  rw [show k + 1 + m - k = m + 1 by omega, leastFrom, hf]; rfl

theorem ref_sat {n : Nat} {f : Nat → Bool} (hn : n ≤ 256) (H : Heap) : TCall Try.prog 13 [tb n f] H (fun x H' => x = satOf n f ∧ H' = H) noE := by
  refine TCall.body Try.func13 rfl rfl ?_
  refine WpC.seqR (WpOps.ps rfl trivial (WpOps.nil ?_))
  refine WpC.seq ?_
  refine WpC.seqR (WpOps.ps rfl trivial (WpOps.nil ?_))
  refine WpC.block ?_
  refine WpC.loopK (fun x : Nat => [(4, .lit (.int .i64 x)), (0, tb n f)]) (fun x H' => x ≤ n ∧ leastFrom f n 0 = leastFrom f (n - x) x ∧ H' = H) (fun x => n - x) 0 ⟨rfl, rfl, trivial⟩ ⟨Nat.zero_le _, rfl, rfl⟩ ?_
  rintro k env H' ⟨hk, hl, rfl⟩
  refine WpC.seq ?_
  refine WpC.seqR (WpOps.ps rfl trivial (WpOps.nil ?_))
  refine WpC.condP rfl ?_ ?_
  · intro hc
    have hc : k < n := by have := ltlen.1 hc; simpa using this
    have hr : (List.range n)[k]? = some k := List.getElem?_range hc
    refine WpC.skip ?_
    refine WpC.seq ?_
    refine WpC.block ?_
    refine WpC.seqR ?_
    refine WpOps.ps rfl trivial ?_
    refine WpOps.consE rfl rfl (Exact.indexAddr_rows rfl rfl rfl (map_at hr) rfl rfl (by decide)) ?_
    refine WpOps.consE rfl rfl (Exact.load_rop rfl rfl rfl) ?_
    refine WpOps.nil ?_
    refine WpC.condB rfl ?_ ?_
    · intro h1
      refine WpC.seqR (WpOps.ps rfl trivial (WpOps.nil ?_))
      refine WpC.ret ?_
      refine VEnds.ret2 rfl rfl rfl ⟨?_, rfl⟩
      unfold satOf
      rw [hl, leastFrom_hit hc h1]
    · intro h1
      refine WpC.skip ?_
      refine WpC.region (WpOps.ps rfl (by simp only [conj, inR]; omega) (WpOps.nil ?_))
      exact ⟨k + 1, by omega, ⟨rfl, rfl, trivial⟩, hc, by rw [hl, leastFrom_step hc h1], rfl⟩
  · intro hc
    have hc : k = n := by have := fun h => hc (ltlen.2 h); simp at this; omega
    subst hc
    refine WpC.exit ?_
    refine WpC.seqR (WpOps.ps rfl trivial (WpOps.nil ?_))
    refine WpC.ret ?_
    refine VEnds.ret2 rfl rfl rfl ⟨?_, rfl⟩
    unfold satOf
    rw [hl, Nat.sub_self]; rfl

/-- how many places below n -/
def countOf (n : Nat) (f : Nat → Bool) : Nat := ((List.range n).filter f).length
theorem countOf_succ (n : Nat) (f : Nat → Bool) : countOf (n + 1) f = countOf n f + (if f n then 1 else 0) := by
  unfold countOf; rw [List.range_succ, List.filter_append, List.length_append]
  cases h : f n <;> simp [h]
theorem countOf_le (n : Nat) (f : Nat → Bool) : countOf n f ≤ n := by
  unfold countOf; exact Nat.le_trans (List.length_filter_le _ _) (by simp)

theorem ref_count {n : Nat} {f : Nat → Bool} (hn : n ≤ 256) (H : Heap) : TCall Try.prog 16 [tb n f] H (fun x H' => x = .lit (.int .i64 (countOf n f)) ∧ H' = H) noE := by
  refine TCall.body Try.func16 rfl rfl ?_
  refine WpC.seqR (WpOps.ps rfl trivial (WpOps.nil ?_))
  refine WpC.seqR (WpOps.ps rfl trivial (WpOps.nil ?_))
  refine WpC.seq ?_
  refine WpC.seqR (WpOps.ps rfl trivial (WpOps.nil ?_))
  refine WpC.block ?_
  refine WpC.loopK (fun x : Nat => [(4, .lit (.int .i64 x)), (0, tb n f), (3, .lit (.int .i64 (countOf x f)))]) (fun x H' => x ≤ n ∧ H' = H) (fun x => n - x) 0 ⟨rfl, rfl, rfl, trivial⟩ ⟨Nat.zero_le _, rfl⟩ ?_
  rintro k env H' ⟨hk, rfl⟩
  have hcl := countOf_le k f
  refine WpC.seq ?_
  refine WpC.seqR (WpOps.ps rfl trivial (WpOps.nil ?_))
  refine WpC.condP rfl ?_ ?_
  · intro hc
    have hc : k < n := by have := ltlen.1 hc; simpa using this
    have hr : (List.range n)[k]? = some k := List.getElem?_range hc
    refine WpC.skip ?_
    refine WpC.seq ?_
    refine WpC.block ?_
    refine WpC.seqR ?_
    refine WpOps.ps rfl trivial ?_
    refine WpOps.consE rfl rfl (Exact.indexAddr_rows rfl rfl rfl (map_at hr) rfl rfl (by decide)) ?_
    refine WpOps.consE rfl rfl (Exact.load_rop rfl rfl rfl) ?_
    refine WpOps.nil ?_
    refine WpC.condB rfl ?_ ?_
    · intro h1
      refine WpC.region (WpOps.ps rfl (by simp only [conj, inR]; omega) (WpOps.nil ?_))
      refine WpC.at 3 (v := .lit (.int .i64 (countOf (k + 1) f))) (by rw [countOf_succ, h1]; rfl) ?_
      refine WpC.region (WpOps.ps rfl (by simp only [conj, inR]; omega) (WpOps.nil ?_))
      exact ⟨k + 1, by omega, ⟨rfl, rfl, rfl, trivial⟩, hc, rfl⟩
    · intro h1
      refine WpC.skip ?_
      refine WpC.at 3 (v := .lit (.int .i64 (countOf (k + 1) f))) (by rw [countOf_succ, h1]; rfl) ?_
      refine WpC.region (WpOps.ps rfl (by simp only [conj, inR]; omega) (WpOps.nil ?_))
      exact ⟨k + 1, by omega, ⟨rfl, rfl, rfl, trivial⟩, hc, rfl⟩
  · intro hc
    have hc : k = n := by have := fun h => hc (ltlen.2 h); simp at this; omega
    subst hc
    refine WpC.exit ?_
    refine WpC.seqR (WpOps.ps rfl trivial (WpOps.nil ?_))
    refine WpC.ret ?_
    exact VEnds.ret1 rfl rfl ⟨rfl, rfl⟩

def pickOf (c : Int) (n : Nat) : Nat := ((if c < 0 then -(c + 1) else c) % n).toNat
theorem pickOf_lt {c : Int} {n : Nat} (h : 0 < n) : pickOf c n < n := by
  unfold pickOf
  have := Int.emod_lt_of_pos (if c < 0 then -(c + 1) else c) (b := (n : Int)) (by omega)
  have := Int.emod_nonneg (if c < 0 then -(c + 1) else c) (b := (n : Int)) (by omega)
  omega
theorem law_pick {c : Int} {n : Nat} (hc : inR .i64 c) (hn : 0 < n) (H : Heap) : TCall Try.prog 18 [.lit (.int .i64 c), .lit (.int .i64 n)] H (fun x H' => x = .lit (.int .i64 (pickOf c n)) ∧ H' = H) noE := by
  simp only [inR] at hc
  refine TCall.body Try.func18 rfl rfl ?_
  refine WpC.seqR (WpOps.ps rfl trivial (WpOps.nil ?_))
  refine WpC.seq ?_
  refine WpC.seqR (WpOps.ps rfl trivial (WpOps.nil ?_))
  refine WpC.condP rfl ?_ ?_
  · intro h
    refine WpC.region (WpOps.ps rfl (by simp only [conj, inR]; omega) (WpOps.nil ?_))
    refine WpC.seqR (WpOps.ps rfl (by simp only [conj, inR]; omega) (WpOps.nil ?_))
    refine WpC.ret ?_
    refine VEnds.ret1 rfl rfl ⟨?_, rfl⟩
    congr 2
    unfold pickOf
    rw [if_pos h, Int.tmod_eq_emod_of_nonneg (by omega), Int.toNat_of_nonneg (Int.emod_nonneg _ (by omega)), Int.zero_sub]
  · intro h
    refine WpC.skip ?_
    refine WpC.seqR (WpOps.ps rfl (by simp only [conj, inR]; omega) (WpOps.nil ?_))
    refine WpC.ret ?_
    refine VEnds.ret1 rfl rfl ⟨?_, rfl⟩
    congr 2
    unfold pickOf
    rw [if_neg h, Int.tmod_eq_emod_of_nonneg (by omega), Int.toNat_of_nonneg (Int.emod_nonneg _ (by omega))]

/-- are two tables one -/
def sameOf (n : Nat) (f g : Nat → Bool) : Bool := decide (∀ k, k < n → f k = g k)
theorem ref_equal {n : Nat} {f g : Nat → Bool} (hn : n ≤ 256) (H : Heap) : TCall Try.prog 28 [tb n f, tb n g] H (fun x H' => x = .lit (.bool (sameOf n f g)) ∧ H' = H) noE := by
  refine TCall.body Try.func28 rfl rfl ?_
  refine WpC.seqR (WpOps.ps rfl trivial (WpOps.nil ?_))
  refine WpC.seq ?_
  refine WpC.seqR (WpOps.ps rfl trivial (WpOps.nil ?_))
  refine WpC.block ?_
  refine WpC.loopK (fun x : Nat => [(5, .lit (.int .i64 x)), (0, tb n f), (1, tb n g)]) (fun x H' => x ≤ n ∧ (∀ k, k < x → f k = g k) ∧ H' = H) (fun x => n - x) 0 ⟨rfl, rfl, rfl, trivial⟩ ⟨Nat.zero_le _, (fun k hk => by omega), rfl⟩ ?_
  rintro k env H' ⟨hk, hl, rfl⟩
  refine WpC.seq ?_
  refine WpC.seqR (WpOps.ps rfl trivial (WpOps.nil ?_))
  refine WpC.condP rfl ?_ ?_
  · intro hc
    have hc : k < n := by have := ltlen.1 hc; simpa using this
    have hr : (List.range n)[k]? = some k := List.getElem?_range hc
    refine WpC.skip ?_
    refine WpC.seq ?_
    refine WpC.block ?_
    refine WpC.seqD [] [0, 1, 2, 3, 4, 5, 6, 7, 8] (by kernel_rfl) (by kernel_rfl) ?_
    refine WpPi.ps rfl trivial ?_
    refine WpPi.consI rfl rfl rfl rfl (fun _ => Exact.indexAddr_rows rfl rfl rfl (map_at hr) rfl rfl (by decide)) ?_
    refine WpPi.consI rfl rfl rfl rfl (fun _ => Exact.load_rop rfl rfl rfl) ?_
    refine WpPi.ps rfl trivial ?_
    refine WpPi.consI rfl rfl rfl rfl (fun _ => Exact.indexAddr_rows rfl rfl rfl (map_at hr) rfl rfl (by decide)) ?_
    refine WpPi.consI rfl rfl rfl rfl (fun _ => Exact.load_rop rfl rfl rfl) ?_
    refine WpPi.ps rfl trivial (WpPi.nil ?_)
    refine WpC.condB rfl ?_ ?_
    · intro h1
      refine WpC.seqR (WpOps.ps rfl trivial (WpOps.nil ?_))
      refine WpC.ret ?_
      refine VEnds.ret1 rfl rfl ⟨?_, rfl⟩
      have : ¬ ∀ k, k < n → f k = g k := fun h => by rw [h k hc] at h1; simp at h1
      simp [sameOf, this]
    · intro h1
      refine WpC.skip ?_
      refine WpC.region (WpOps.ps rfl (by simp only [conj, inR]; omega) (WpOps.nil ?_))
      exact ⟨k + 1, by omega, ⟨rfl, rfl, rfl, trivial⟩, hc, (fun j hj => by
        rcases Nat.lt_or_ge j k with h | h
        · exact hl j h
        · obtain rfl : j = k := by omega
          simpa using h1), rfl⟩
  · intro hc
    have hc : k = n := by have := fun h => hc (ltlen.2 h); simp at this; omega
    subst hc
    refine WpC.exit ?_
    refine WpC.seqR (WpOps.ps rfl trivial (WpOps.nil ?_))
    refine WpC.ret ?_
    refine VEnds.ret1 rfl rfl ⟨?_, rfl⟩
    have : sameOf k f g = true := by simp only [sameOf, decide_eq_true_eq]; exact hl
    rw [this]
    simp

/-- does anything below n change with name i -/
def hangs (n : Nat) (f : Nat → Bool) (i : Nat) : Bool := decide (∃ s, s < n ∧ f s ≠ f (s ^^^ 2 ^ i))
def onlyOf (n : Nat) (f : Nat → Bool) : Nat → Nat
  | 0 => 0
  | i + 1 => if hangs n f i then onlyOf n f i ||| 2 ^ i else onlyOf n f i
theorem onlyOf_lt (n : Nat) (f : Nat → Bool) : ∀ i, onlyOf n f i < 2 ^ i
  | 0 => by simp [onlyOf]
  | i + 1 => by
    have := onlyOf_lt n f i
    unfold onlyOf
    split
    · exact Nat.or_lt_two_pow (by rw [Nat.pow_succ]; omega) (Nat.pow_lt_pow_right (by omega) (by omega))
    · rw [Nat.pow_succ]; omega
/-- .. of those below j -/
def hangsTo (f : Nat → Bool) (i j : Nat) : Bool := decide (∃ s, s < j ∧ f s ≠ f (s ^^^ 2 ^ i))
theorem hangsTo_succ (f : Nat → Bool) (i j : Nat) : hangsTo f i (j + 1) = (hangsTo f i j || (f j != f (j ^^^ 2 ^ i))) := by
  unfold hangsTo
  rw [Bool.eq_iff_iff]
  simp only [decide_eq_true_eq, Bool.or_eq_true, bne_iff_ne, ne_eq]
  constructor
  · rintro ⟨s, h1, h2⟩
    rcases Nat.lt_or_ge s j with h | h
    · exact .inl ⟨s, h, h2⟩
    · obtain rfl : s = j := by omega
      exact .inr h2
  · rintro (⟨s, h1, h2⟩ | h)
    · exact ⟨s, by omega, h2⟩
    · exact ⟨j, by omega, h⟩
def onlyTo (n : Nat) (f : Nat → Bool) (i j : Nat) : Nat := if hangsTo f i j then onlyOf n f i ||| 2 ^ i else onlyOf n f i
theorem or_or (a b : Nat) : (a ||| b) ||| b = a ||| b := by rw [Nat.or_assoc, Nat.or_self]

theorem ref_only {v : Nat} {f : Nat → Bool} (hv : v ≤ 8) (H : Heap) : TCall Try.prog 17 [tb (2 ^ v) f] H (fun x H' => x = .lit (.int .i64 (onlyOf (2 ^ v) f v)) ∧ H' = H) noE := by
  have h8 := pow8 hv
  refine TCall.body Try.func17 rfl rfl ?_
  refine WpC.seqR (WpOps.ps rfl trivial (WpOps.nil ?_))
  refine WpC.seqR (WpOps.ps rfl trivial (WpOps.nil ?_))
  refine WpC.seq ?_
  refine WpC.seqR (WpOps.ps rfl trivial (WpOps.nil ?_))
  refine WpC.block ?_
  refine WpC.loopK (fun x : Nat => [(4, .lit (.int .i64 x)), (0, tb (2 ^ v) f), (3, .lit (.int .i64 (onlyOf (2 ^ v) f x)))]) (fun x H' => x ≤ v ∧ H' = H) (fun x => v - x) 0 ⟨rfl, rfl, rfl, trivial⟩ ⟨Nat.zero_le _, rfl⟩ ?_
  rintro i env H' ⟨hi, rfl⟩
  have hi8 : i ≤ 8 := by omega
  refine WpC.seq ?_
  refine WpC.seqR (WpOps.ps rfl (by simp only [conj]; omega) (WpOps.nil ?_))
  refine WpC.condP rfl ?_ ?_
  · intro hc
    rw [shl1 hi8] at hc
    have hc := ltlen.1 hc
    rw [List.length_range] at hc
    have hiv : i < v := (Nat.pow_lt_pow_iff_right (a := 2) (by omega)).1 hc
    refine WpC.skip ?_
    refine WpC.seq ?_
    refine WpC.block ?_
    refine WpC.seqR (WpOps.ps rfl trivial (WpOps.nil ?_))
    refine WpC.block ?_
    refine WpC.loopK (fun x : Nat => [(5, .lit (.int .i64 x)), (0, tb (2 ^ v) f), (4, .lit (.int .i64 i)), (3, .lit (.int .i64 (onlyTo (2 ^ v) f i x)))]) (fun x H'' => x ≤ 2 ^ v ∧ H'' = H') (fun x => 2 ^ v - x) 0 ⟨rfl, rfl, rfl, rfl, trivial⟩ ⟨Nat.zero_le _, rfl⟩ ?_
    rintro k env H'' ⟨hk, rfl⟩
    refine WpC.seq ?_
    refine WpC.seqR (WpOps.ps rfl trivial (WpOps.nil ?_))
    refine WpC.condP rfl ?_ ?_
    · intro hc
      have hc : k < 2 ^ v := by have := ltlen.1 hc; simpa using this
      have hx : k ^^^ 2 ^ i < 2 ^ v := Nat.xor_lt_two_pow hc (pow_lt hiv)
      have hr : (List.range (2 ^ v))[k]? = some k := List.getElem?_range hc
      have hr2 : (List.range (2 ^ v))[k ^^^ 2 ^ i]? = some (k ^^^ 2 ^ i) := List.getElem?_range hx
      refine WpC.skip ?_
      refine WpC.seq ?_
      refine WpC.block ?_
      refine WpC.seqD [] [0, 1, 2, 3, 4, 5, 6, 7, 8, 9, 10, 11] (by kernel_rfl) (by kernel_rfl) ?_
      refine WpPi.ps rfl trivial ?_
      refine WpPi.consI rfl rfl rfl rfl (fun _ => Exact.indexAddr_rows rfl rfl rfl (map_at hr) rfl rfl (by decide)) ?_
      refine WpPi.consI rfl rfl rfl rfl (fun _ => Exact.load_rop rfl rfl rfl) ?_
      refine WpPi.ps rfl (by simp only [conj]; omega) ?_
      refine WpPi.at 27 (congrArg (fun z => AV.lit (.int .i64 z)) (xor_shl (s := k) (i := i) (by omega) hi8)) ?_
      refine WpPi.consI rfl rfl rfl rfl (fun _ => Exact.indexAddr_rows rfl rfl rfl (map_at hr2) rfl rfl (by decide)) ?_
      refine WpPi.consI rfl rfl rfl rfl (fun _ => Exact.load_rop rfl rfl rfl) ?_
      refine WpPi.ps rfl trivial (WpPi.nil ?_)
      have hlt : onlyTo (2 ^ v) f i k < 2 ^ 62 := by
        have h1 := onlyOf_lt (2 ^ v) f i
        have h2 := pow8 hi8
        unfold onlyTo
        split
        · exact Nat.or_lt_two_pow (by omega) (by omega)
        · omega
      refine WpC.condB rfl ?_ ?_
      · intro h1
        refine WpC.region (WpOps.ps rfl (by simp only [conj]; omega) (WpOps.nil ?_))
        refine WpC.at 3 (v := .lit (.int .i64 (onlyTo (2 ^ v) f i (k + 1)))) (by
          refine congrArg (fun z => AV.lit (.int .i64 z)) ((or_shl hlt hi8).trans ?_)
          congr 1
          have : hangsTo f i (k + 1) = true := by
            have h1 : (f k != f (k ^^^ 2 ^ i)) = true := h1
            rw [hangsTo_succ, h1, Bool.or_true]
          unfold onlyTo
          rw [this]
          split
          · rw [or_or]; rfl
          · rfl) ?_
        refine WpC.region (WpOps.ps rfl (by simp only [conj, inR]; omega) (WpOps.nil ?_))
        exact ⟨k + 1, by omega, ⟨rfl, rfl, rfl, rfl, trivial⟩, hc, rfl⟩
      · intro h1
        refine WpC.skip ?_
        refine WpC.at 3 (v := .lit (.int .i64 (onlyTo (2 ^ v) f i (k + 1)))) (by
          have h1 : (f k != f (k ^^^ 2 ^ i)) = false := h1
          unfold onlyTo
          rw [hangsTo_succ, h1, Bool.or_false]; rfl) ?_
        refine WpC.region (WpOps.ps rfl (by simp only [conj, inR]; omega) (WpOps.nil ?_))
        exact ⟨k + 1, by omega, ⟨rfl, rfl, rfl, rfl, trivial⟩, hc, rfl⟩
    · intro hc
      have hc : k = 2 ^ v := by have := fun h => hc (ltlen.2 h); simp at this; omega
      subst hc
      refine WpC.exit ?_
      refine WpC.region (WpOps.ps rfl (by simp only [conj, inR]; omega) (WpOps.nil ?_))
      exact ⟨i + 1, by omega, ⟨rfl, rfl, rfl, trivial⟩, by omega, rfl⟩
  · intro hc
    rw [shl1 hi8] at hc
    have hc : v ≤ i := by
      have h2 : ¬ (2 ^ i < (List.range (2 ^ v)).length) := fun h => hc (ltlen.2 h)
      rw [List.length_range] at h2
      exact (Nat.pow_le_pow_iff_right (a := 2) (by omega)).1 (Nat.not_lt.1 h2)
    obtain rfl : i = v := by omega
    refine WpC.exit ?_
    refine WpC.seqR (WpOps.ps rfl trivial (WpOps.nil ?_))
    refine WpC.ret ?_
    exact VEnds.ret1 rfl rfl ⟨rfl, rfl⟩
end Go.Proofs.Ytkhgiieglpdejaa
