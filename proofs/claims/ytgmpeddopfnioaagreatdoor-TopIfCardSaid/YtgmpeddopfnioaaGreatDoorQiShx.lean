/-
  Part of the proof of If.
-/
import Derived.WalkKit
import Derived.Lib.Strings
import Derived.Lib.IndexMore
import Derived.Lib.Repeat
import Derived.Lib.Replace
import Derived.Lib.Join

set_option linter.unusedVariables false
namespace Go.Sh
def chk {α : Type} (p : Prop) [Decidable p] (k : Option α) : Option α := if p then k else none
theorem chk_iff {α : Type} {p : Prop} [Decidable p] {k : Option α} {r : α} : chk p k = some r ↔ p ∧ k = some r := by
  unfold chk; split
  · rename_i h; exact ⟨fun e => ⟨h, e⟩, fun e => e.2⟩
  · rename_i h; exact ⟨fun e => (by cases e), fun e => (h e.1).elim⟩
theorem chk_of {α : Type} {p : Prop} [Decidable p] (h : p) (k : Option α) : chk p k = k := if_pos h
theorem chk_some {α : Type} {p : Prop} [Decidable p] {k : Option α} {r : α} (h : chk p k = some r) : p ∧ k = some r := chk_iff.1 h
theorem bind_some {α β : Type} {x : Option α} {k : α → Option β} {r : β} (h : x.bind k = some r) : ∃ a, x = some a ∧ k a = some r := by
  cases x with
  | none => cases h
  | some a => exact ⟨a, rfl, h⟩
theorem ite_pos {α : Type} {b : Bool} {x y : Option α} {r : α} (hb : b = true) (h : (if b = true then x else y) = some r) : x = some r := by rwa [if_pos hb] at h
theorem ite_neg {α : Type} {b : Bool} {x y : Option α} {r : α} (hb : b = false) (h : (if b = true then x else y) = some r) : y = some r := by rwa [if_neg (by rw [hb]; simp)] at h
theorem some_inj {α : Type} {a b : α} (h : some a = some b) : a = b := by injection h
def ix {α : Type} (l : List α) (n : Int) : Option α := if 0 ≤ n then l[n.toNat]? else none
theorem ix_spec {α : Type} {l : List α} {n : Int} {x : α} (h : ix l n = some x) : 0 ≤ n ∧ l[n.toNat]? = some x := by
  unfold ix at h; split at h
  · rename_i h0; exact ⟨h0, h⟩
  · cases h
theorem ix_lt {α : Type} {l : List α} {n : Int} {x : α} (h : ix l n = some x) : n.toNat < l.length := (List.getElem?_eq_some_iff.1 (ix_spec h).2).1
theorem ix_nat {α : Type} {l : List α} {k : Nat} : ix l (k : Int) = l[k]? := by unfold ix; rw [if_pos (Int.natCast_nonneg k)]; rfl
abbrev I64 (x : Int) : Prop := -9223372036854775808 ≤ x ∧ x ≤ 9223372036854775807
def andO (c : Bool) (k : Option Bool) : Option Bool := if c = true then k else some false
def orO (c : Bool) (k : Option Bool) : Option Bool := if c = true then some true else k
theorem andO_some (c d : Bool) : andO c (some d) = some (c && d) := by cases c <;> rfl
theorem orO_some (c d : Bool) : orO c (some d) = some (c || d) := by cases c <;> rfl
def shl (a b : Int) : Int := IntKind.wrap .i64 (a * 2 ^ (min b.toNat (IntKind.bits .i64)))
def shr (a b : Int) : Int := a.fdiv (2 ^ (min b.toNat (IntKind.bits .i64)))
def band (a b : Int) : Int := IntKind.wrap .i64 (BitVec.ofInt (IntKind.bits .i64) a &&& BitVec.ofInt (IntKind.bits .i64) b).toNat
def bor (a b : Int) : Int := IntKind.wrap .i64 (BitVec.ofInt (IntKind.bits .i64) a ||| BitVec.ofInt (IntKind.bits .i64) b).toNat
def mul64 (x y : Int) : Int × Int := (x * y / 18446744073709551616, x * y % 18446744073709551616)
def wadd (a b : Int) : Int := IntKind.wrap .i64 (a + b)
def wsub (a b : Int) : Int := IntKind.wrap .i64 (a - b)
def wmul (a b : Int) : Int := IntKind.wrap .i64 (a * b)
def wquo (a b : Int) : Int := IntKind.wrap .i64 (a.tdiv b)
def wxor (a b : Int) : Int := IntKind.wrap .i64 (BitVec.ofInt (IntKind.bits .i64) a ^^^ BitVec.ofInt (IntKind.bits .i64) b).toNat
inductive Step (σ ρ : Type) where
 | next (s : σ)
 | done (r : ρ)
def iterS {σ ρ : Type} (f : σ → Option (Step σ ρ)) : Nat → σ → Option ρ
 | 0, _ => none
 | n + 1, s => match f s with
  | none => none
  | some (.next s') => iterS f n s'
  | some (.done r) => some r
def loopS {σ ρ : Type} (f : σ → Option (Step σ ρ)) (s : σ) : Option ρ := iterS f 18446744073709551616 s
theorem iterS_of {σ ρ : Type} {f : σ → Option (Step σ ρ)} (Inv : σ → Prop) (μ : σ → Nat) (g : σ → ρ)
  (step : ∀ s, Inv s → (∃ s', f s = some (.next s') ∧ Inv s' ∧ μ s' < μ s ∧ g s' = g s) ∨ f s = some (.done (g s))) : ∀ (n : Nat) (s : σ), μ s < n → Inv s → iterS f n s = some (g s)
 | 0, s, h, _ => absurd h (Nat.not_lt_zero _)
 | n + 1, s, h, hi => by
  unfold iterS
  rcases step s hi with ⟨s', h1, h2, h3, h4⟩ | h1
  ·rw [h1]
   simp only
   rw [iterS_of Inv μ g step n s' (by omega) h2, h4]
  ·rw [h1]
theorem loopS_of {σ ρ : Type} {f : σ → Option (Step σ ρ)} (Inv : σ → Prop) (μ : σ → Nat) (g : σ → ρ) {s : σ} (hi : Inv s) (hm : μ s < 18446744073709551616)
  (step : ∀ s, Inv s → (∃ s', f s = some (.next s') ∧ Inv s' ∧ μ s' < μ s ∧ g s' = g s) ∨ f s = some (.done (g s))) : loopS f s = some (g s) := iterS_of Inv μ g step _ s hm hi
theorem iterS_rel {σ ρ : Type} {f : σ → Option (Step σ ρ)} (Inv : σ → Prop) (μ : σ → Nat) (R : ρ → Prop)
  (step : ∀ s, Inv s → (∃ s', f s = some (.next s') ∧ Inv s' ∧ μ s' < μ s) ∨ ∃ r, f s = some (.done r) ∧ R r) : ∀ (n : Nat) (s : σ), μ s < n → Inv s → ∃ r, iterS f n s = some r ∧ R r
 | 0, s, h, _ => absurd h (Nat.not_lt_zero _)
 | n + 1, s, h, hi => by
  unfold iterS
  rcases step s hi with ⟨s', h1, h2, h3⟩ | ⟨r, h1, h2⟩
  ·rw [h1]
   simp only
   exact iterS_rel Inv μ R step n s' (by omega) h2
  ·rw [h1]; exact ⟨r, rfl, h2⟩
theorem loopS_rel {σ ρ : Type} {f : σ → Option (Step σ ρ)} (Inv : σ → Prop) (μ : σ → Nat) (R : ρ → Prop) {s : σ} (hi : Inv s) (hm : μ s < 18446744073709551616)
  (step : ∀ s, Inv s → (∃ s', f s = some (.next s') ∧ Inv s' ∧ μ s' < μ s) ∨ ∃ r, f s = some (.done r) ∧ R r) : ∃ r, loopS f s = some r ∧ R r := iterS_rel Inv μ R step _ s hm hi
def foldS {σ ρ α : Type} (f : σ → α → Option (Step σ ρ)) : List α → σ → Option (σ ⊕ ρ)
 | [], s => some (.inl s)
 | x :: l, s => match f s x with
  | none => none
  | some (.next s') => foldS f l s'
  | some (.done r) => some (.inr r)
theorem foldS_next {σ ρ α : Type} {f : σ → α → Option (Step σ ρ)} {x : α} {l : List α} {s s' : σ} (h : f s x = some (.next s')) : foldS f (x :: l) s = foldS f l s' := by simp only [foldS, h]
end Go.Sh
namespace Go.Sh
inductive GVal where
 | num (n : Int)
 | un (sign : List UInt8) (x : GVal)
 | bin (sign : List UInt8) (x y : GVal)
 | cho (c x y : GVal)
 deriving DecidableEq
structure GFile where
 path : List UInt8
 text : List UInt8
 deriving DecidableEq
structure GFault where
 file_ : Int
 line_ : Int
 e : Int
 deriving DecidableEq
structure GTok where
 kind : Int
 text : List UInt8
 file_ : Int
 from_ : Int
 to : Int
 blank : Bool
 deriving DecidableEq
structure GLine where
 kind : Int
 first : Int
 n : Int
 toks : List GTok
 deriving DecidableEq
structure GMacro where
 name : List UInt8
 func : Bool
 params : List (List UInt8)
 variadic : Bool
 body : List GTok
 deriving DecidableEq
structure GUnit_fault where
 at_ : GFault
 deriving DecidableEq
structure GPptok_reader where
 s : List UInt8
 at_ : Int
 deriving DecidableEq
structure GChar where
 b : UInt8
 at_ : Int
 deriving DecidableEq
structure GIfexpr_reader where
 l : List GTok
 wrong : Bool
 bad : Int
 deriving DecidableEq
structure GIfexpr_choice where
 c : GVal
 x : GVal
 y : GVal
 deriving DecidableEq
structure GLeaf where
 line_ : Int
 end_ : Int
 deriving DecidableEq
structure GBranch where
 line_ : Int
 items : List GLeaf
 deriving DecidableEq
structure GItem where
 line_ : Int
 end_ : Int
 branches : List GBranch
 deriving DecidableEq
structure GCond_open where
 line_ : Int
 branches : List GBranch
 last : Bool
 ahead : List GItem
 deriving DecidableEq
structure GIfexpr_binary where
 sign : List UInt8
 x : GVal
 y : GVal
 deriving DecidableEq
structure GIfexpr_unary where
 sign : List UInt8
 x : GVal
 deriving DecidableEq
structure GMacro_wrong where
 e : Int
 deriving DecidableEq
structure GMacro_reader where
 l : List GTok
 deriving DecidableEq
structure GExpand_token where
 tok : GTok
 hide : List (List UInt8)
 mark : Bool
 op : Bool
 deriving DecidableEq
structure GUnit_run where
 files : List GFile
 macros : List (List UInt8 × GMacro)
 told : List GTok
 includes : Int
structure GExpand_work where
 ms : List (List UInt8 × GMacro)
 steps : Int
structure GUnit_file where
 number : Int
 lines : List GLine
 deep : Int
def getM {α : Type} (k : List UInt8) : List (List UInt8 × α) → Option α
 | [] => none
 | p :: l => if k = p.1 then some p.2 else getM k l
def putM {α : Type} (k : List UInt8) (v : α) : List (List UInt8 × α) → List (List UInt8 × α)
 | [] => [(k, v)]
 | p :: l => if k = p.1 then (k, v) :: l else p :: putM k v l
def upL (x : GLeaf) : GItem := { line_ := x.line_, end_ := x.end_, branches := [] }
end Go.Sh
namespace Go.Sh
def signs : List (List UInt8) := [[46, 46, 46], [60, 60, 61], [62, 62, 61], [45, 62], [43, 43], [45, 45], [60, 60], [62, 62], [60, 61], [62, 61], [61, 61], [33, 61], [38, 38], [124, 124], [42, 61], [47, 61], [37, 61], [43, 61], [45, 61], [38, 61], [94, 61], [124, 61], [35, 35], [91], [93], [40], [41], [123], [125], [46], [38], [42], [43], [45], [126], [33], [47], [37], [60], [62], [94], [124], [63], [58], [59], [61], [44], [35]]
def words : List (List UInt8) := [[105, 102], [105, 102, 100, 101, 102], [105, 102, 110, 100, 101, 102], [101, 108, 105, 102], [101, 108, 115, 101], [101, 110, 100, 105, 102], [100, 101, 102, 105, 110, 101], [117, 110, 100, 101, 102], [105, 110, 99, 108, 117, 100, 101], [101, 114, 114, 111, 114], [112, 114, 97, 103, 109, 97], [108, 105, 110, 101]]
end Go.Sh
set_option linter.unusedVariables false
namespace Go.Sh
open Go
def charsAt : Nat → List UInt8 → List GChar
 | _, [] => []
 | i, [c] => [⟨c, i⟩]
 | i, c :: d :: r => if c = 92 ∧ d = 10 then charsAt (i + 2) r else ⟨c, i⟩ :: charsAt (i + 1) (d :: r)
theorem hasPrefix_pair (l : List UInt8) : Lib.hasPrefix l [92, 10] = true ↔ ∃ r, l = 92 :: 10 :: r := by
 unfold Lib.hasPrefix
 match l with
 | [] => simp
 | [c] => simp [List.isPrefixOf]
 | c :: d :: r =>
  constructor
  ·intro h
   simp only [List.isPrefixOf, Bool.and_eq_true, beq_iff_eq] at h
   obtain ⟨rfl, rfl, _⟩ := h
   exact ⟨r, rfl⟩
  ·rintro ⟨r', h⟩
   injection h with h1 h
   injection h with h2 h
   subst h1; subst h2
   rfl
theorem charsAt_pair {i : Nat} {text : List UInt8} (h : Lib.hasPrefix (text.drop i) [92, 10] = true) : i + 2 ≤ text.length ∧ charsAt i (text.drop i) = charsAt (i + 2) (text.drop (i + 2)) := by
 obtain ⟨r, hr⟩ := (hasPrefix_pair _).1 h
 have h1 : (text.drop i).length = r.length + 2 := by rw [hr]; rfl
 rw [List.length_drop] at h1
 have h2 : text.drop (i + 2) = r := by rw [← List.drop_drop, hr]; rfl
 exact ⟨by omega, by rw [h2, hr]; simp [charsAt]⟩
theorem charsAt_one {i : Nat} {text : List UInt8} (hlt : i < text.length) (h : Lib.hasPrefix (text.drop i) [92, 10] = false) : ∃ c, text[i]? = some c ∧ charsAt i (text.drop i) = ⟨c, i⟩ :: charsAt (i + 1) (text.drop (i + 1)) := by
  have hd : text.drop i = text[i] :: text.drop (i + 1) := List.drop_eq_getElem_cons hlt
  refine ⟨text[i], List.getElem?_eq_getElem hlt, ?_⟩
  rw [hd] at h ⊢
  generalize text[i] = c at *
  cases hr : text.drop (i + 1) with
  | nil => rfl
  | cons d r =>
    rw [hr] at h
    have : ¬ (c = 92 ∧ d = 10) := fun ⟨e1, e2⟩ => by
      subst e1; subst e2
      rw [(hasPrefix_pair _).2 ⟨r, rfl⟩] at h; cases h
    simp only [charsAt, if_neg this]
def chars (text : List UInt8) : Option (List GChar) := if text.length ≤ 9223372036854775807 then some (charsAt 0 text) else none
theorem chars_some {text : List UInt8} {l : List GChar} (h : chars text = some l) : text.length ≤ 9223372036854775807 ∧ l = charsAt 0 text := by
  unfold chars at h; split at h
  · rename_i hl; injection h with h; exact ⟨hl, h.symm⟩
  · cases h
end Go.Sh
set_option linter.unusedVariables false
namespace Go.Sh
def piecesF : Nat → Nat → List GTok → List (Int × Int)
 | f, i, [] => if f < i then [((f : Int), (i : Int))] else []
 | f, i, t :: r => if t.kind = 7 then ((f : Int), (i : Int)) :: piecesF (i + 1) (i + 1) r else piecesF f (i + 1) r
def pieces (l : List GTok) : Option (List (Int × Int)) := if l.length ≤ 9223372036854775806 then some (piecesF 0 0 l) else none
theorem pieces_some {l : List GTok} {ps : List (Int × Int)} (h : pieces l = some ps) : l.length ≤ 9223372036854775806 ∧ ps = piecesF 0 0 l := by
  unfold pieces at h; split at h
  · rename_i hl; injection h with h; exact ⟨hl, h.symm⟩
  · cases h
end Go.Sh
namespace Go.Sh
def orP {ε α β : Type} : Sum ε α → (ε → β) → (α → β) → β
 | .inl e, a, _ => a e
 | .inr x, _, b => b x
theorem orP_inl {ε α β : Type} {e : ε} {a : ε → Option β} {b : α → Option β} {r : β} (h : orP (.inl e) a b = some r) : a e = some r := h
theorem orP_inr {ε α β : Type} {x : α} {a : ε → Option β} {b : α → Option β} {r : β} (h : orP (.inr x) a b = some r) : b x = some r := h
end Go.Sh
