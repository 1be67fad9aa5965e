/-
  Part of the proof of If.
-/
import Derived.Test.YtgmpeddopfnioaaGreatDoorQiVc
import Derived.Maps.AppendAt
import Derived.Conc.EntryLaws

set_option linter.unusedVariables false
set_option linter.unusedSimpArgs false
namespace Go.Vc
open Go
def inR : IntKind → Int → Prop
 | .i64, r => -9223372036854775808 ≤ r ∧ r ≤ 9223372036854775807
 | .i32, r => -2147483648 ≤ r ∧ r ≤ 2147483647
 | .i16, r => -32768 ≤ r ∧ r ≤ 32767
 | .i8, r => -128 ≤ r ∧ r ≤ 127
 | .u64, r => 0 ≤ r ∧ r ≤ 18446744073709551615
 | .u32, r => 0 ≤ r ∧ r ≤ 4294967295
 | .u16, r => 0 ≤ r ∧ r ≤ 65535
 | .u8, r => 0 ≤ r ∧ r ≤ 255
theorem inR.wrap {k : IntKind} {r : Int} (h : inR k r) : k.wrap r = r := by
 cases k <;> simp only [inR] at h <;> simp only [IntKind.wrap, IntKind.bits, IntKind.signed] <;> simp <;> omega
def fldOf (P : Program) (s f : Nat) : Option (Nat × Nat) :=
 match P.underlying s with
 | some (.struct fs) => (match fs[f]? with | some x => some (x.offset, x.type) | none => none)
 | _ => none
def aggT (P : Program) (t : TypeId) : Bool :=
 match P.underlying t with
 | some (.struct _) | some (.array _ _) => true
 | _ => false
def elemT (P : Program) (t : TypeId) : Option TypeId :=
 match P.underlying t with
 | some (.slice e) => some e
 | _ => none
def forceA {β : Type} (x : AV) (k : AV → β) : β :=
 match x with
 | .lit v => k (.lit v)
 | .rows s es => k (.rows s es)
 | .own n p => k (.own n p)
 | .agg cs => k (.agg cs)
 | .tup cs => k (.tup cs)
 | .rop cs => k (.rop cs)
 | .clo f a b => k (.clo f a b)
 | .ifc t x => k (.ifc t x)
def forceL {β : Type} : List AV → (List AV → β) → β
 | [], k => k []
 | x :: xs, k => forceA x fun x' => forceL xs fun xs' => k (x' :: xs')
theorem forceA_eq {β : Type} (x : AV) (k : AV → β) : forceA x k = k x := by cases x <;> rfl
theorem forceL_eq {β : Type} : ∀ (l : List AV) (k : List AV → β), forceL l k = k l
 | [], k => rfl
 | x :: xs, k => by rw [forceL, forceA_eq, forceL_eq xs]
def cellsA : AV → List AV
 | .agg cs => cs
 | .lit v => v.cells.toList.map .lit
 | v => [v]
def spliceA (xs : List AV) (off : Nat) (vs : List AV) : List AV := xs.take off ++ vs ++ xs.drop (off + vs.length)
def fillA (place : Nat → Option (Nat × Nat)) (cells : List AV) : List (Nat × AV) → Option (List AV)
 | [] => some cells
 | (i, v) :: rest => match place i with
  | none => none
  | some (off, size) => if (cellsA v).length ≠ size ∨ off + (cellsA v).length > cells.length then none else fillA place (spliceA cells off (cellsA v)) rest
def placesOf (P : Program) (t : TypeId) : Option (Nat → Option (Nat × Nat)) :=
 match P.info? t, P.underlying t with
 | some _, some (.array _ e) => (match P.info? e with | some ie => some (fun i => some (i * ie.size, ie.size)) | none => none)
 | some _, some (.struct fields) => (match fields.toList.mapM (fun f => (P.info? f.type).map fun i => (f.offset, i.size)) with | some places => some (places.toArray[·]?) | none => none)
 | _, _ => none
def zeroA (P : Program) (t : TypeId) : Option (List AV) :=
 match P.info? t with
 | some it => (match it.zero with | some z => some (z.cells.toList.map ofCell) | none => none)
 | none => none
def conj : List Prop → Prop
 | [] => True
 | [p] => p
 | p :: ps => p ∧ conj ps
def bin (op : BinOp) (x y : AV) : Option (AV × List Prop) :=
 match x, y with
 | .lit (.int k a), .lit (.int k' b) =>
  if k = k' then
   (match op with
   | .add => some (.lit (.int k (a + b)), [inR k (a + b)])
   | .sub => some (.lit (.int k (a - b)), [inR k (a - b)])
   | .mul => some (.lit (.int k (a * b)), [inR k (a * b)])
   | .quo => some (.lit (.int k (a.tdiv b)), [b ≠ 0 ∧ inR k (a.tdiv b)])
   | .rem => some (.lit (.int k (a.tmod b)), [b ≠ 0])
   | .and => some (.lit (.int k (k.wrap (BitVec.ofInt k.bits a &&& BitVec.ofInt k.bits b).toNat)), [])
   | .or => some (.lit (.int k (k.wrap (BitVec.ofInt k.bits a ||| BitVec.ofInt k.bits b).toNat)), [])
   | .xor => some (.lit (.int k (k.wrap (BitVec.ofInt k.bits a ^^^ BitVec.ofInt k.bits b).toNat)), [])
   | .shl => some (.lit (.int k (k.wrap (a * 2 ^ (min b.toNat k.bits)))), [0 ≤ b])
   | .shr => some (.lit (.int k (a.fdiv (2 ^ (min b.toNat k.bits)))), [0 ≤ b])
   | .eql => some (.lit (.bool (decide (a = b))), [])
   | .neq => some (.lit (.bool (!decide (a = b))), [])
   | .lss => some (.lit (.bool (decide (a < b))), [])
   | .leq => some (.lit (.bool (decide (a ≤ b))), [])
   | .gtr => some (.lit (.bool (decide (b < a))), [])
   | .geq => some (.lit (.bool (decide (b ≤ a))), [])
   | _ => none)
  else none
 | .lit (.string ⟨⟨a⟩⟩), .lit (.string ⟨⟨b⟩⟩) =>
  (match op with
  | .add => some (.lit (.string ⟨⟨a ++ b⟩⟩), [a.length + b.length ≤ 9223372036854775807])
  | .eql => some (.lit (.bool (decide (a = b))), [])
  | .neq => some (.lit (.bool (!decide (a = b))), [])
  | .lss => some (.lit (.bool (Op.bytesLess a b)), [])
  | .leq => some (.lit (.bool (Op.bytesLess a b || decide (a = b))), [])
  | .gtr => some (.lit (.bool (!(Op.bytesLess a b || decide (a = b)))), [])
  | .geq => some (.lit (.bool (!(Op.bytesLess a b))), [])
  | _ => none)
 | _, _ => none
def eqv (P : Program) (t : TypeId) (x y : AV) : Option Bool :=
 match P.underlying t, x, y with
 | some .bool, .lit (.bool a), .lit (.bool b) => some (a == b)
 | some (.pointer _), .lit (.pointer a), .lit (.pointer none) => some a.isNone
 | some (.slice _), .rows _ (_ :: _), .own _ none => some false
 | some (.slice _), .own _ p, .own _ none => some p.isNone
 | some (.map _ _), .lit (.map a), .lit (.map none) => some a.isNone
 | _, _, _ => none
def lenA (P : Program) (t : TypeId) (x : AV) : Option Nat :=
 match P.underlying t, x with
 | some .string, .lit (.string ⟨⟨l⟩⟩) => some l.length
 | some (.slice _), .rows _ es => some es.length
 | some (.slice _), .own n _ => some n
 | some (.slice _), .lit (.slice _ n _) => some n
 | some (.array n _), _ => some n
 | some (.map _ _), .lit (.map none) => some 0
 | _, _ => none
def natOf : Option AV → Option (Option Nat)
 | none => some none
 | some (.lit (.int _ n)) => some (some n.toNat)
 | _ => none
def nnOf : Option AV → Prop
 | some (.lit (.int _ n)) => 0 ≤ n
 | _ => True
def cutL {α : Type} (lo hi : Option Nat) (l : List α) : List α :=
 match lo, hi with
 | none, none => l
 | some a, none => l.drop a
 | none, some b => l.take b
 | some a, some b => (l.drop a).take (b - a)
def cutOk (lo hi : Option Nat) (n : Nat) : Prop :=
 match lo, hi with
 | none, none => True
 | some a, none => a ≤ n
 | none, some b => b ≤ n
 | some a, some b => a ≤ b ∧ b ≤ n
def cutOk3 (hi mx : Option Nat) (n : Nat) : Prop :=
 match hi, mx with
 | _, none => True
 | some b, some m => b ≤ m ∧ m ≤ n
 | none, some _ => False
def sliceA (P : Program) (t : TypeId) (x : AV) (lo0 hi0 mx0 : Option AV) : Option (AV × List Prop) :=
 match natOf lo0, natOf hi0, natOf mx0, P.underlying t, x with
 | some lo, some hi, some none, some .string, .lit (.string ⟨⟨l⟩⟩) => some (.lit (.string ⟨⟨cutL lo hi l⟩⟩), [nnOf lo0 ∧ nnOf hi0 ∧ cutOk lo hi l.length])
 | some lo, some hi, some mx, some (.slice e), .rows sz es => if P.cellsOf e = sz then (if sz = 0 then none else some (.rows sz (cutL lo hi es), [nnOf lo0 ∧ nnOf hi0 ∧ nnOf mx0 ∧ cutOk lo hi es.length ∧ cutOk3 hi mx es.length])) else none
 | _, _, _, _, _ => none
def pev (P : Program) (op : Op) (env : Env) : Option (AV × List Prop) :=
 match op with
 | .move x | .assign x => forceA (env.ev x) fun v => some (v, [])
 | .pick c a b => match env.ev c with
  | .lit (.bool true) => forceA (env.ev a) fun v => some (v, [])
  | .lit (.bool false) => forceA (env.ev b) fun v => some (v, [])
  | _ => none
 | .nilCheck x => match env.ev x with
  | .lit (.pointer (some a)) => some (.lit (.pointer (some a)), [])
  | .rop cs => some (.rop cs, [])
  | .clo (.func f) a b => some (.clo (.func f) a b, [])
  | .clo (.yield f) a b => some (.clo (.yield f) a b, [])
  | _ => none
 | .unOp .not _ x => match env.ev x with
  | .lit (.bool b) => some (.lit (.bool (!b)), [])
  | _ => none
 | .unOp .neg _ x => match env.ev x with
  | .lit (.int k a) => some (.lit (.int k (0 - a)), [inR k (0 - a)])
  | _ => none
 | .binOp op t x y _ => match bin op (env.ev x) (env.ev y) with
  | some r => some r
  | none => match op, eqv P t (env.ev x) (env.ev y) with
   | .eql, some b => some (.lit (.bool b), [])
   | .neq, some b => some (.lit (.bool (!b)), [])
   | _, _ => none
 | .convert src dst x => match P.underlying src, P.underlying dst, env.ev x with
  | some (.int _), some (.int k), .lit (.int _ n) => some (.lit (.int k n), [inR k n])
  | some .string, some .string, .lit (.string s) => some (.lit (.string s), [])
  | _, _, _ => none
 | .fieldAddr s x f => match fldOf P s f with
  | some (off, ty) => if P.cellsOf ty = 0 then none else match env.ev x with
   | .rop cs => forceL (cs.drop off) fun cs' => some (.rop cs', [])
   | .lit (.pointer (some ⟨g, o, none⟩)) => some (.lit (.pointer (some ⟨g, o + off, none⟩)), [])
   | _ => none
  | none => none
 | .field s x f => match fldOf P s f, env.ev x with
  | some (off, ty), .agg cs => if aggT P ty then (forceL ((cs.drop off).take (P.cellsOf ty)) fun cs' => some (.agg cs', [])) else (match P.underlying ty, cs[off]? with | some _, some v => forceA v fun v => some (v, []) | _, _ => none)
  | _, _ => none
 | .extract t i => match env.ev t with
  | .tup vs => (match vs[i]? with | some v => forceA v fun v => some (v, []) | none => none)
  | _ => none
 | .makeInterface t x => match P.underlying t with
  | some (.interface _) => none
  | some _ => some (.ifc t (env.ev x), [])
  | none => none
 | .makeFunc f first captured => forceL (first.toList.map env.ev) fun a => forceL (captured.toList.map env.ev) fun b => some (.clo f a b, [])
 | .call { callee := .builtin .len, args := args, argTypes := ts } => match args.toList, ts.toList with
  | [x], [t] => (match lenA P t (env.ev x) with | some n => some (.lit (.int .i64 n), []) | none => none)
  | _, _ => none
 | .call { callee := .builtin .min, args := args, argTypes := _ } => match args.toList with
  | [x, y] => (match env.ev x, env.ev y with
   | .lit (.int k a), .lit (.int _ b) => some (.lit (.int k (if b < a then b else a)), [])
   | _, _ => none)
  | _ => none
 | .call { callee := .builtin .max, args := args, argTypes := _ } => match args.toList with
  | [x, y] => (match env.ev x, env.ev y with
   | .lit (.int k a), .lit (.int _ b) => some (.lit (.int k (if a < b then b else a)), [])
   | _, _ => none)
  | _ => none
 | .index t x i => match P.underlying t, env.ev x, env.ev i with
  | some .string, .lit (.string ⟨⟨l⟩⟩), .lit (.int _ n) => some (.lit (.int .u8 (l.getD n.toNat 0).toNat), [0 ≤ n ∧ n.toNat < l.length])
  | _, _, _ => none
 | .build t parts => match zeroA P t, placesOf P t with
  | some z, some pl => (match fillA pl z (parts.toList.map fun p => (p.1, env.ev p.2)) with
   | some cs => forceL cs fun cs' => some (.agg cs', [])
   | none => none)
  | _, _ => none
 | .slice t x lo hi mx => sliceA P t (env.ev x) (lo.map env.ev) (hi.map env.ev) (mx.map env.ev)
 | _ => none
section
variable {P : Program} {w : World} {D : Nat → Prop}
theorem eqGuard_noop {op : BinOp} {t : TypeId} {x y : Operand} {a b : Value} (h1 : ∀ cs, a ≠ .agg cs) (h2 : a ≠ .nilIface) : (eqGuard op t x y a b).run P w = .ok () w := by
 unfold eqGuard
 cases op <;> simp
 all_goals
  split
  ·exact (h2 rfl).elim
  ·exact (h1 _ rfl).elim
  ·rfl
theorem bin_sound {op : BinOp} {t : TypeId} {x y : AV} {v : AV} {c : List Prop} (h : bin op x y = some (v, c)) (hc : conj c) {u u' : Value} (hx : VR w D x u) (hy : VR w D y u') :
    ∃ r, (binOp op t u u').run P w = .ok r w ∧ VR w D v r ∧ ∀ xo yo, (eqGuard op t xo yo u u').run P w = .ok () w := by
  unfold bin at h
  split at h
  case h_3 => cases h
  case h_2 =>
    rename_i a b
    obtain rfl := hx.lit_inv
    obtain rfl := hy.lit_inv
    have hg : ∀ xo yo, (eqGuard op t xo yo (.string ⟨⟨a⟩⟩) (.string ⟨⟨b⟩⟩)).run P w = .ok () w := fun xo yo => eqGuard_noop (by intro cs; simp) (by simp)
    have ea : (ByteArray.mk ⟨a⟩).toList = a := by rw [ByteArray.toList_eq]
    have eb : (ByteArray.mk ⟨b⟩).toList = b := by rw [ByteArray.toList_eq]
    cases op <;> simp only [Option.some.injEq, Prod.mk.injEq, reduceCtorEq] at h <;> obtain ⟨rfl, rfl⟩ := h <;> simp only [conj] at hc
    case add =>
      refine ⟨_, by rw [binOp_string_add]; exact run_string_add_sum w _ _ hc, ?_, hg⟩
      have := ByteArray.mk_append_mk a b
      rw [this]; exact .lit _
    case eql => exact ⟨_, by rw [binOp_string_eql, ea, eb]; rfl, by rw [show (a == b) = decide (a = b) from by rw [Bool.eq_iff_iff]; simp]; exact .lit _, hg⟩
    case neq => exact ⟨_, by rw [binOp_string_neq, ea, eb]; rfl, by rw [show (a == b) = decide (a = b) from by rw [Bool.eq_iff_iff]; simp]; exact .lit _, hg⟩
    case lss => exact ⟨_, by rw [binOp_string_lss, ea, eb]; rfl, .lit _, hg⟩
    case leq => exact ⟨_, by rw [show binOp .leq t (.string ⟨⟨a⟩⟩) (.string ⟨⟨b⟩⟩) = pure (.bool (Op.bytesLess (ByteArray.mk ⟨a⟩).toList (ByteArray.mk ⟨b⟩).toList || (ByteArray.mk ⟨a⟩).toList == (ByteArray.mk ⟨b⟩).toList)) by simp [binOp, Op.stringOp], ea, eb]; rfl, by rw [show (a == b) = decide (a = b) from by rw [Bool.eq_iff_iff]; simp]; exact .lit _, hg⟩
    case gtr => exact ⟨_, by rw [show binOp .gtr t (.string ⟨⟨a⟩⟩) (.string ⟨⟨b⟩⟩) = pure (.bool (!(Op.bytesLess (ByteArray.mk ⟨a⟩).toList (ByteArray.mk ⟨b⟩).toList || (ByteArray.mk ⟨a⟩).toList == (ByteArray.mk ⟨b⟩).toList))) by simp [binOp, Op.stringOp], ea, eb]; rfl, by rw [show (a == b) = decide (a = b) from by rw [Bool.eq_iff_iff]; simp]; exact .lit _, hg⟩
    case geq => exact ⟨_, by rw [show binOp .geq t (.string ⟨⟨a⟩⟩) (.string ⟨⟨b⟩⟩) = pure (.bool (!(Op.bytesLess (ByteArray.mk ⟨a⟩).toList (ByteArray.mk ⟨b⟩).toList))) by simp [binOp, Op.stringOp], ea, eb]; rfl, .lit _, hg⟩
  rename_i k a k' b
  obtain rfl := hx.lit_inv
  obtain rfl := hy.lit_inv
  have hg : ∀ xo yo, (eqGuard op t xo yo (.int k a) (.int k' b)).run P w = .ok () w := fun xo yo => eqGuard_noop (by intro cs; simp) (by simp)
  split at h
  case isFalse => cases h
  rename_i hk
  subst hk
  cases op <;> simp only [Option.some.injEq, Prod.mk.injEq, reduceCtorEq] at h <;> obtain ⟨rfl, rfl⟩ := h <;> simp only [conj] at hc
  case add => exact ⟨_, by simp [binOp, Op.intArith]; rfl, by rw [hc.wrap]; exact .lit _, hg⟩
  case sub => exact ⟨_, by simp [binOp, Op.intArith]; rfl, by rw [hc.wrap]; exact .lit _, hg⟩
  case mul => exact ⟨_, by simp [binOp, Op.intArith]; rfl, by rw [hc.wrap]; exact .lit _, hg⟩
  case quo => exact ⟨_, by simp [binOp, Op.intDiv, hc.1]; rfl, by rw [hc.2.wrap]; exact .lit _, hg⟩
  case rem => exact ⟨_, by simp [binOp, Op.intDiv, hc], .lit _, hg⟩
  case and => exact ⟨_, by simp only [binOp, Op.intBits]; simp, .lit _, hg⟩
  case or => exact ⟨_, by simp only [binOp, Op.intBits]; simp, .lit _, hg⟩
  case xor => exact ⟨_, by simp only [binOp, Op.intBits]; simp, .lit _, hg⟩
  case shl => exact ⟨_, by simp only [binOp, Op.shift]; rw [if_neg (by omega)]; rfl, .lit _, hg⟩
  case shr => exact ⟨_, by simp only [binOp, Op.shift]; rw [if_neg (by omega)]; rfl, .lit _, hg⟩
  case eql => exact ⟨_, by simp [binOp, Op.intCmp]; rfl, .lit _, hg⟩
  case neq => exact ⟨_, by simp [binOp, Op.intCmp, bne]; rfl, .lit _, hg⟩
  case lss => exact ⟨_, by simp [binOp, Op.intCmp], .lit _, hg⟩
  case leq => exact ⟨_, by simp [binOp, Op.intCmp], .lit _, hg⟩
  case gtr => exact ⟨_, by simp [binOp, Op.intCmp], .lit _, hg⟩
  case geq => exact ⟨_, by simp [binOp, Op.intCmp], .lit _, hg⟩
theorem eqv_run {t : TypeId} {u u' : Value} {b : Bool} (h : ∀ d : Nat, (Op.equalIn (d + 1) t u u').run P w = .ok b w) (hb : ∀ op, op = .eql ∨ op = .neq → binOp op t u u' = (match op with | .eql => (do pure (.bool (← Op.equal t u u'))) | _ => (do pure (.bool (!(← Op.equal t u u')))))) :
  (binOp .eql t u u').run P w = .ok (.bool b) w ∧ (binOp .neq t u u').run P w = .ok (.bool (!b)) w := by
 have h1 : (Op.equal t u u').run P w = .ok b w := h 9999
 rw [hb .eql (.inl rfl), hb .neq (.inr rfl)]
 simp [h1]
theorem eqv_sound {t : TypeId} {x y : AV} {b : Bool} (h : eqv P t x y = some b) {u u' : Value} (hx : VR w D x u) (hy : VR w D y u') :
    ((binOp .eql t u u').run P w = .ok (.bool b) w ∧ (binOp .neq t u u').run P w = .ok (.bool (!b)) w) ∧ ∀ op xo yo, (eqGuard op t xo yo u u').run P w = .ok () w := by
  unfold eqv at h
  split at h <;> simp only [Option.some.injEq, reduceCtorEq] at h <;> subst h
  · rename_i a b hu
    obtain rfl := hx.lit_inv; obtain rfl := hy.lit_inv
    exact ⟨eqv_run (fun d => by simp [Op.equalIn, run_underlying hu]) (by rintro op (rfl | rfl) <;> rfl), fun _ _ _ => eqGuard_noop (by intro cs; simp) (by simp)⟩
  · rename_i a hu
    obtain rfl := hx.lit_inv; obtain rfl := hy.lit_inv
    exact ⟨eqv_run (fun d => by cases a <;> simp [Op.equalIn, run_underlying hu]) (by rintro op (rfl | rfl) <;> cases a <;> rfl), fun _ _ _ => eqGuard_noop (by intro cs; simp) (by simp)⟩
  · rename_i hu
    rcases hx.rows_inv with ⟨h, _⟩ | ⟨a, cap, us, rfl, _⟩
    · cases h
    obtain ⟨_, rfl⟩ := hy.nil_inv
    exact ⟨eqv_run (fun d => by simp [Op.equalIn, run_underlying hu]) (by rintro op (rfl | rfl) <;> rfl), fun _ _ _ => eqGuard_noop (by intro cs; simp) (by simp)⟩
  · rename_i hu
    obtain ⟨_, rfl⟩ := hy.nil_inv
    rcases hx.own_inv with ⟨rfl, _, rfl⟩ | ⟨g, c, rfl, rfl⟩
    · exact ⟨eqv_run (fun d => by simp [Op.equalIn, run_underlying hu]) (by rintro op (rfl | rfl) <;> rfl), fun _ _ _ => eqGuard_noop (by intro cs; simp) (by simp)⟩
    · exact ⟨eqv_run (fun d => by simp [Op.equalIn, run_underlying hu]) (by rintro op (rfl | rfl) <;> rfl), fun _ _ _ => eqGuard_noop (by intro cs; simp) (by simp)⟩
  · rename_i a hu
    obtain rfl := hx.lit_inv; obtain rfl := hy.lit_inv
    exact ⟨eqv_run (fun d => by cases a <;> simp [Op.equalIn, run_underlying hu]) (by rintro op (rfl | rfl) <;> cases a <;> rfl), fun _ _ _ => eqGuard_noop (by intro cs; simp) (by simp)⟩
theorem lenA_sound {t ty : TypeId} {x : AV} {n : Nat} (h : lenA P t x = some n) {u : Value} (hx : VR w D x u) : (Builtin.len_ #[t] ty #[u]).run P w = .ok (.int .i64 n) w := by
  unfold lenA at h
  split at h <;> simp only [Option.some.injEq, reduceCtorEq] at h <;> subst h
  · rename_i s hu; obtain rfl := hx.lit_inv; simp [Builtin.len_, run_underlying hu, goInt]; rfl
  · rename_i hu
    rcases hx.rows_inv with ⟨rfl, rfl⟩ | ⟨a, cap, us, rfl, _⟩
    · simp [Builtin.len_, run_underlying hu, goInt]
    · simp [Builtin.len_, run_underlying hu, goInt]
  · rename_i hu
    rcases hx.own_inv with ⟨rfl, rfl, rfl⟩ | ⟨g, c, rfl, rfl⟩
    · simp [Builtin.len_, run_underlying hu, goInt]
    · simp [Builtin.len_, run_underlying hu, goInt]
  · rename_i hu; obtain rfl := hx.lit_inv; simp [Builtin.len_, run_underlying hu, goInt]
  · rename_i _ hu; simp [Builtin.len_, run_underlying hu, goInt]
  · rename_i hu; obtain rfl := hx.lit_inv; simp [Builtin.len_, run_underlying hu, goInt]
theorem fldOf_spec {s f off ty : Nat} (h : fldOf P s f = some (off, ty)) : ∃ fs x, P.underlying s = some (.struct fs) ∧ fs[f]? = some x ∧ x.offset = off ∧ x.type = ty := by
  unfold fldOf at h
  split at h
  · rename_i fs hu
    cases hx : fs[f]? with
    | none => rw [hx] at h; cases h
    | some x => rw [hx] at h; simp at h; exact ⟨fs, x, hu, hx, h.1, h.2⟩
  · cases h
theorem cellsOf_run {t : TypeId} {n : Nat} (h : P.cellsOf t = n) (hn : n ≠ 0) : (sizeOf t).run P w = .ok n w := by
 unfold Program.cellsOf at h
 cases hi : P.info? t with
 | none => rw [hi] at h; simp at h; exact (hn h.symm).elim
 | some i => rw [hi] at h; simp at h; simp [sizeOf, typeInfo, hi, h]
theorem addr_add (g o n : Nat) : (⟨g, o, none⟩ : Addr).add n = ⟨g, o + n, none⟩ := by
 unfold Addr.add
 split
 ·rename_i h; subst h; simp
 ·rfl
end
theorem VR.cells {w : World} {D : Nat → Prop} {x : AV} {u : Value} (h : VR w D x u) : VRs w D (cellsA x) u.cells.toList := by
 cases h with
 | lit v => exact VRs.map_lit _
 | agg us hl hv => exact ⟨hl, hv⟩
 | rows us hs hl hc hv hb hcap => exact VRs.cons (.rows us hs hl hc hv hb hcap) .nil
 | rows0 => exact VRs.cons .rows0 .nil
 | buf g n c => exact VRs.cons (.buf g n c) .nil
 | own0 => exact VRs.cons .own0 .nil
 | tup us hl hv => exact VRs.cons (.tup us hl hv) .nil
 | rop us hl hc hv hb => exact VRs.cons (.rop us hl hc hv hb) .nil
 | clo us vs a b c d => exact VRs.cons (.clo us vs a b c d) .nil
 | ifc h => exact VRs.cons (.ifc h) .nil
theorem foldl_splice (off : Nat) : ∀ (vs : List Value) (k : Nat) (cs : Array Value), off + k + vs.length ≤ cs.size →
  ((vs.zipIdx k).foldl (fun cs (p : Value × Nat) => cs.setIfInBounds (off + p.2) p.1) cs).toList = cs.toList.take (off + k) ++ vs ++ cs.toList.drop (off + k + vs.length)
 | [], k, cs, h => by simp
 | v :: vs, k, cs, h => by
  simp only [List.length_cons] at h
  rw [List.zipIdx_cons, List.foldl_cons, foldl_splice off vs (k + 1) _ (by simp; omega)]
  apply List.ext_getElem?
  intro i
  simp only [Array.toList_setIfInBounds, List.getElem?_append, List.getElem?_take, List.getElem?_drop, List.length_append, List.length_take, List.length_set, Array.length_toList, List.getElem?_set, List.length_cons, List.getElem?_cons]
  have h1 : min (off + (k + 1)) cs.size = off + k + 1 := by omega
  have h2 : min (off + k) cs.size = off + k := by omega
  simp only [h1, h2]
  by_cases c1 : i < off + k
  ·have a1 : i < off + k + 1 + vs.length := by omega
   have a2 : i < off + k + 1 := by omega
   have a3 : i < off + (k + 1) := by omega
   have a4 : off + k ≠ i := by omega
   have a5 : i < off + k + (vs.length + 1) := by omega
   simp [c1, a1, a2, a3, a4, a5]
  ·by_cases c2 : i = off + k
   ·subst c2
    have a1 : off + k < off + k + 1 + vs.length := by omega
    have a5 : off + k < off + k + (vs.length + 1) := by omega
    have a6 : off + k < cs.size := by omega
    simp [a1, a5, a6]
   ·have a2 : ¬ i < off + k + 1 := by omega
    by_cases c3 : i < off + k + 1 + vs.length
    ·have a5 : i < off + k + (vs.length + 1) := by omega
     have a6 : i - (off + k) ≠ 0 := by omega
     simp only [c1, a2, c3, a5, a6, if_true, if_false]
     congr 1
    ·have a5 : ¬ i < off + k + (vs.length + 1) := by omega
     simp only [c1, a2, c3, a5, if_false]
     have a7 : off + (k + 1) + vs.length + (i - (off + k + 1 + vs.length)) = i := by omega
     have a8 : off + k + (vs.length + 1) + (i - (off + k + (vs.length + 1))) = i := by omega
     rw [a7, a8, if_neg (by omega)]
theorem VRs.splice {w : World} {D : Nat → Prop} {xs vs : List AV} {us ws : List Value} (h : VRs w D xs us) (k : VRs w D vs ws) (off : Nat) : VRs w D (spliceA xs off vs) (us.take off ++ ws ++ us.drop (off + ws.length)) := by
 unfold spliceA
 rw [← k.1]
 exact ((h.take off).append k).append (h.drop _)
theorem fill_sound {w : World} {D : Nat → Prop} (place : Nat → Option (Nat × Nat)) : ∀ (ps : List (Nat × AV)) (qs : List (Nat × Value)) (cells : List AV) (us : Array Value) (out : List AV), VRs w D cells us.toList → fillA place cells ps = some out →
    qs.length = ps.length → (∀ (k : Nat) p q, ps[k]? = some p → qs[k]? = some q → p.1 = q.1 ∧ VR w D p.2 q.2) → ∃ us', Instr.fill place us qs = some us' ∧ VRs w D out us'.toList
  | [], qs, cells, us, out, hv, hf, hl, hp => by
    have : qs = [] := List.eq_nil_of_length_eq_zero (by simpa using hl)
    subst this
    simp only [fillA, Option.some.injEq] at hf; subst hf
    exact ⟨us, rfl, hv⟩
  | (i, v) :: ps, qs, cells, us, out, hv, hf, hl, hp => by
    cases qs with
    | nil => simp at hl
    | cons q qs =>
      obtain ⟨j, u⟩ := q
      obtain ⟨e1, e2⟩ := hp 0 _ _ rfl rfl
      simp only at e1 e2
      subst e1
      have hc := e2.cells
      unfold fillA at hf
      unfold Instr.fill
      cases hpl : place i with
      | none => rw [hpl] at hf; cases hf
      | some os =>
        obtain ⟨off, size⟩ := os
        rw [hpl] at hf
        simp only at hf ⊢
        have hlen : (cellsA v).length = u.cells.size := by rw [← hc.1]; simp
        have hlen2 : cells.length = us.size := by rw [← hv.1]; simp
        rw [hlen, hlen2] at hf
        split at hf
        · cases hf
        · rename_i hcond
          rw [if_neg (by simpa using hcond)]
          have hsz : off + u.cells.size ≤ us.size := by
            simp only [not_or, Nat.not_lt] at hcond; omega
          refine fill_sound place ps qs _ _ out ?_ hf (by simpa using hl) (fun k p q h1 h2 => hp (k + 1) p q (by simpa using h1) (by simpa using h2))
          have hz : u.cells.zipIdx.foldl (fun cs (x : Value × Nat) => cs.setIfInBounds (off + x.2) x.1) us = ((u.cells.toList.zipIdx 0).foldl (fun cs (p : Value × Nat) => cs.setIfInBounds (off + p.2) p.1) us) := by
            rw [← Array.foldl_toList]; simp
          have := foldl_splice off u.cells.toList 0 us (by simpa using hsz)
          simp only [Nat.add_zero] at this
          show VRs w D _ (Array.foldl _ us u.cells.zipIdx).toList
          rw [show (Array.foldl (fun cs (x : Value × Nat) => match x with | (c, j) => cs.setIfInBounds (off + j) c) us u.cells.zipIdx) = u.cells.zipIdx.foldl (fun cs (x : Value × Nat) => cs.setIfInBounds (off + x.2) x.1) us from rfl, hz, this]
          exact hv.splice hc off
theorem flatten_drop {α : Type} {size : Nat} : ∀ (es : List (List α)) (a : Nat), (∀ e ∈ es, e.length = size) → (es.drop a).flatten = es.flatten.drop (a * size)
 | [], a, h => by simp
 | e :: es, 0, h => by simp
 | e :: es, a + 1, h => by
  have he := h e (by simp)
  rw [List.drop_succ_cons, flatten_drop es a (fun x hx => h x (by simp [hx])), List.flatten_cons, List.drop_append]
  rw [show e.drop ((a + 1) * size) = [] from List.drop_eq_nil_of_le (by rw [he, Nat.add_mul]; omega), List.nil_append, he, Nat.add_mul]
  congr 1; omega
theorem flatten_take {α : Type} {size : Nat} : ∀ (es : List (List α)) (a : Nat), (∀ e ∈ es, e.length = size) → (es.take a).flatten = es.flatten.take (a * size)
 | [], a, h => by simp
 | e :: es, 0, h => by simp
 | e :: es, a + 1, h => by
  have he := h e (by simp)
  rw [List.take_succ_cons, List.flatten_cons, flatten_take es a (fun x hx => h x (by simp [hx])), List.flatten_cons, List.take_append]
  rw [List.take_of_length_le (l := e) (by rw [he, Nat.add_mul]; omega), he, Nat.add_mul]
  congr 2; omega
theorem flatten_length {α : Type} {size : Nat} : ∀ (es : List (List α)), (∀ e ∈ es, e.length = size) → es.flatten.length = es.length * size
 | [], h => by simp
 | e :: es, h => by
  rw [List.flatten_cons, List.length_append, flatten_length es (fun x hx => h x (by simp [hx])), h e (by simp), List.length_cons, Nat.add_mul]; omega
def loOf (lo : Option Nat) : Nat := lo.getD 0
def hiOf (hi : Option Nat) (n : Nat) : Nat := hi.getD n
theorem cutL_eq {α : Type} (lo hi : Option Nat) (l : List α) : cutL lo hi l = (l.drop (loOf lo)).take (hiOf hi l.length - loOf lo) := by
  cases lo <;> cases hi <;> simp [cutL, loOf, hiOf]
  rw [List.take_of_length_le (by simp)]
theorem cutOk_eq {lo hi : Option Nat} {n : Nat} (h : cutOk lo hi n) : loOf lo ≤ hiOf hi n ∧ hiOf hi n ≤ n := by
  cases lo <;> cases hi <;> simp_all [cutOk, loOf, hiOf]
theorem natOf_spec {w : World} {D : Nat → Prop} {x : Option AV} {u : Option Value} {n : Option Nat} (h : natOf x = some n) (hnn : nnOf x) (hx : x.isSome = u.isSome) (hv : ∀ a b, x = some a → u = some b → VR w D a b) :
    (n = none ∧ u = none) ∨ ∃ k v, n = some k ∧ u = some (.int v (Int.ofNat k)) := by
  unfold natOf at h
  split at h
  · injection h with h; cases u with
    | none => exact .inl ⟨h.symm, rfl⟩
    | some b => simp at hx
  · rename_i k k'
    injection h with h
    cases u with
    | none => simp at hx
    | some b => have := (hv _ _ rfl rfl).lit_inv; exact .inr ⟨k'.toNat, k, h.symm, by rw [this]; simp only [nnOf] at hnn; congr 2; show k' = ((k'.toNat : Nat) : Int); omega⟩
  · cases h
theorem sliceBounds_run {P : Program} {w : World} {isS : Bool} {len cap : Nat} {lo hi mx : Option Nat} {ul uh um : Option Value}
    (h1 : (lo = none ∧ ul = none) ∨ ∃ k v, lo = some k ∧ ul = some (.int v (Int.ofNat k))) (h2 : (hi = none ∧ uh = none) ∨ ∃ k v, hi = some k ∧ uh = some (.int v (Int.ofNat k)))
    (h3 : (mx = none ∧ um = none) ∨ ∃ k v, mx = some k ∧ um = some (.int v (Int.ofNat k))) (hlen : len ≤ cap) (ok : cutOk lo hi len) (ok3 : cutOk3 hi mx len) :
    (Instr.sliceBounds isS len cap ul uh um).run P w = .ok (loOf lo, hiOf hi len, mx.getD cap) w := by
  have hb : ∀ (v : IntKind) (k y : Nat) (c : BoundsCode), k ≤ y → (Instr.sliceBound (.int v (Int.ofNat k)) y c).run P w = .ok k w := fun v k y c h => by
    have c1 : (0 : Int) ≤ Int.ofNat k ∧ Int.ofNat k ≤ (y : Int) := ⟨Int.natCast_nonneg _, by show (k : Int) ≤ y; omega⟩
    simp only [Instr.sliceBound, Sem.run_bind, asIntOf, Sem.run_pure, Result.andThen_ok, Sem.run_ite]
    rw [if_pos c1]; rfl
  obtain ⟨k1, k2⟩ := cutOk_eq ok
  rcases h3 with ⟨rfl, rfl⟩ | ⟨m, vm, rfl, rfl⟩
  · rcases h2 with ⟨rfl, rfl⟩ | ⟨h, vh, rfl, rfl⟩ <;> rcases h1 with ⟨rfl, rfl⟩ | ⟨l, vl, rfl, rfl⟩ <;> simp only [loOf, hiOf, Option.getD_none, Option.getD_some] at k1 k2 ⊢ <;>
      simp only [Instr.sliceBounds, Sem.run_bind, Sem.run_pure, Result.andThen_ok]
    · rw [hb vl l len _ k1]; rfl
    · rw [hb vh h cap _ (by omega)]; rfl
    · rw [hb vh h cap _ (by omega)]; simp only [Result.andThen_ok]; rw [hb vl l h _ k1]; rfl
  · rcases h2 with ⟨rfl, rfl⟩ | ⟨h, vh, rfl, rfl⟩
    · exact ok3.elim
    · simp only [cutOk3] at ok3
      rcases h1 with ⟨rfl, rfl⟩ | ⟨l, vl, rfl, rfl⟩ <;> simp only [loOf, hiOf, Option.getD_none, Option.getD_some] at k1 k2 ⊢ <;>
        simp only [Instr.sliceBounds, Sem.run_bind, Sem.run_pure, Result.andThen_ok]
      · rw [hb vm m cap _ (by omega)]; simp only [Result.andThen_ok]; rw [hb vh h m _ ok3.1]; rfl
      · rw [hb vm m cap _ (by omega)]; simp only [Result.andThen_ok]; rw [hb vh h m _ ok3.1]; simp only [Result.andThen_ok]; rw [hb vl l h _ k1]; rfl
theorem sliceA_sound {P : Program} {w : World} {D : Nat → Prop} {t : TypeId} {x : AV} {lo hi mx : Option AV} {v : AV} {c : List Prop} (h : sliceA P t x lo hi mx = some (v, c)) (hc : conj c) {u : Value} {ul uh um : Option Value} (hx : VR w D x u)
    (i1 : lo.isSome = ul.isSome) (r1 : ∀ a b, lo = some a → ul = some b → VR w D a b) (i2 : hi.isSome = uh.isSome) (r2 : ∀ a b, hi = some a → uh = some b → VR w D a b) (i3 : mx.isSome = um.isSome) (r3 : ∀ a b, mx = some a → um = some b → VR w D a b) :
    ∃ v', (Instr.sliceAt t u ul uh um).run P w = .ok v' w ∧ VR w D v v' := by
  unfold sliceA at h
  split at h
  · rename_i lo' hi' l n1 n2 n3 hu
    simp only [Option.some.injEq, Prod.mk.injEq] at h; obtain ⟨rfl, rfl⟩ := h; simp only [conj] at hc
    obtain rfl := hx.lit_inv
    have e3 : um = none := by
      cases mx with
      | none => cases um with
        | none => rfl
        | some b => simp at i3
      | some a => unfold natOf at n3; split at n3 <;> simp_all
    subst e3
    have hb := sliceBounds_run (P := P) (w := w) (isS := false) (natOf_spec n1 hc.1 i1 r1) (natOf_spec n2 hc.2.1 i2 r2) (.inl ⟨rfl, rfl⟩) (Nat.le_refl _) hc.2.2 trivial
    refine ⟨.string ⟨⟨cutL lo' hi' l⟩⟩, ?_, .lit _⟩
    have hsz : (ByteArray.mk ⟨l⟩).size = l.length := rfl
    simp only [Instr.sliceAt, Instr.slice, Sem.run_bind, run_underlying hu, Result.andThen_ok, Option.isSome_none, Bool.false_eq_true, if_false, hsz, hb, Sem.run_pure]
    rw [cutL_eq]
    have he := ByteArray.extract_mk l (loOf lo') (hiOf hi' l.length)
    rw [show (ByteArray.mk ⟨l⟩).extract (loOf lo') (hiOf hi' l.length) = _ from he]
  · rename_i lo' hi' mx' e sz es n1 n2 n3 hu
    split at h
    case isFalse => cases h
    rename_i hsz
    split at h
    case isTrue => cases h
    rename_i hz
    simp only [Option.some.injEq, Prod.mk.injEq] at h; obtain ⟨rfl, rfl⟩ := h; simp only [conj] at hc
    obtain ⟨nn1, nn2, nn3, hc⟩ := hc
    rcases hx.rows_inv with ⟨rfl, rfl⟩ | ⟨a, cap, us, rfl, g1, g2, g3, g4, g5⟩
    · have hb := sliceBounds_run (P := P) (w := w) (isS := true) (len := 0) (cap := 0) (natOf_spec n1 nn1 i1 r1) (natOf_spec n2 nn2 i2 r2) (natOf_spec n3 nn3 i3 r3) (Nat.le_refl _) hc.1 hc.2
      obtain ⟨k1, k2⟩ := cutOk_eq hc.1
      have hso := cellsOf_run (w := w) (P := P) (t := e) hsz hz
      have hn : cutL lo' hi' ([] : List (List AV)) = [] := by rw [cutL_eq]; simp
      rw [hn]
      simp only [List.length_nil] at k1 k2
      have z1 : hiOf hi' 0 = 0 := by omega
      have z2 : loOf lo' = 0 := by omega
      have z3 : mx'.getD 0 = 0 := by
        cases mx' with
        | none => rfl
        | some m =>
          have := hc.2
          cases hi' with
          | none => exact this.elim
          | some b => simp only [cutOk3, List.length_nil] at this; simp only [Option.getD_some]; omega
      refine ⟨.slice none 0 0, ?_, .rows0⟩
      simp only [Instr.sliceAt, Instr.slice, Sem.run_bind, run_underlying hu, Result.andThen_ok, List.length_nil] at hb ⊢
      rw [hb]
      simp only [Result.andThen_ok, hso, Sem.run_pure, z1, z2, z3]
      rfl
    have hb := sliceBounds_run (P := P) (w := w) (isS := true) (natOf_spec n1 nn1 i1 r1) (natOf_spec n2 nn2 i2 r2) (natOf_spec n3 nn3 i3 r3) g5 hc.1 hc.2
    obtain ⟨k1, k2⟩ := cutOk_eq hc.1
    have hso := cellsOf_run (w := w) (P := P) (t := e) hsz hz
    refine ⟨.slice (if mx'.getD cap = loOf lo' then some a else (some a).map (·.add (loOf lo' * sz))) (hiOf hi' es.length - loOf lo') (mx'.getD cap - loOf lo'), ?_, ?_⟩
    · simp only [Instr.sliceAt, Instr.slice, Sem.run_bind, run_underlying hu, Result.andThen_ok, hb, hso, Sem.run_pure]
    · have hn : (cutL lo' hi' es).length = hiOf hi' es.length - loOf lo' := by rw [cutL_eq]; simp; omega
      rw [← hn]
      have hm : mx'.getD cap ≥ hiOf hi' es.length := by
        cases mx' with
        | none => simp; omega
        | some m =>
          have := hc.2
          cases hi' with
          | none => exact this.elim
          | some b => simp only [cutOk3] at this; simp only [Option.getD_some, hiOf]; omega
      have hfl : (cutL lo' hi' es).flatten = (es.flatten.drop (loOf lo' * sz)).take ((hiOf hi' es.length - loOf lo') * sz) := by
        rw [cutL_eq, flatten_take _ _ (fun e he => g4 e (List.mem_of_mem_drop he)), flatten_drop _ _ g4]
      have hv2 := (g1.drop (loOf lo' * sz)).take ((hiOf hi' es.length - loOf lo') * sz)
      have hcell : ∀ (k : Nat) (u : Value), ((us.drop (loOf lo' * sz)).take ((hiOf hi' es.length - loOf lo') * sz))[k]? = some u → w.cell? ((a.add (loOf lo' * sz)).add k) = some u := fun k u hk => by
        rw [add_add]
        rw [List.getElem?_take] at hk
        split at hk
        · exact g2 _ u (by simpa using hk)
        · cases hk
      have hmem : ∀ e ∈ cutL lo' hi' es, e.length = sz := fun e he => by
        rw [cutL_eq] at he; exact g4 e (List.mem_of_mem_drop (List.mem_of_mem_take he))
      by_cases hml : mx'.getD cap = loOf lo'
      · have h0 : hiOf hi' es.length - loOf lo' = 0 := by omega
        simp only [hml, if_true]
        refine .rows [] hmem ?_ (fun k u hk => by simp at hk) (fun k x u _ hk => by simp at hk) (fun h => (h rfl).elim) (by omega)
        rw [hfl, h0]; simp
      · simp only [hml, if_false]
        refine .rows _ hmem (by rw [hfl]; exact hv2.1) hcell (fun k x u h1 h2 => hv2.2 k x u (by rw [← hfl]; exact h1) h2) (fun hne => ?_) (by omega)
        rw [block_of_add']
        exact g3 (by rintro rfl; simp at hne)
  · cases h
theorem pev_sound {P : Program} {o : Oper} {env : Env} {v : AV} {c : List Prop} (h : pev P o.op env = some (v, c)) (hc : conj c) (H : Heap) : Exact P o env H v := by
  apply vB (by
    cases hop : o.op with
    | defer c => rw [hop] at h; simp [pev] at h
    | _ => simp [noDefer, hop])
  intro a w ⟨hr, hh⟩
  unfold pev at h
  unfold execOp
  split at h
  · -- move
    rename_i x hop
    simp only [forceA_eq, Option.some.injEq, Prod.mk.injEq] at h; obtain ⟨rfl, rfl⟩ := h; try simp only [conj] at hc
    rw [hop] at hr ⊢
    exact ⟨_, rfl, hr x (by simp [Op.operands])⟩
  · rename_i x hop
    simp only [forceA_eq, Option.some.injEq, Prod.mk.injEq] at h; obtain ⟨rfl, rfl⟩ := h; try simp only [conj] at hc
    rw [hop] at hr ⊢
    exact ⟨_, rfl, hr x (by simp [Op.operands])⟩
  · -- pick
    rename_i cc x y hop
    rw [hop] at hr ⊢
    have h0 := hr cc (by simp [Op.operands])
    split at h <;> simp only [forceA_eq, Option.some.injEq, Prod.mk.injEq, reduceCtorEq] at h <;> obtain ⟨rfl, rfl⟩ := h <;> try simp only [conj] at hc
    · rename_i he
      rw [he] at h0
      have h1 := h0.lit_inv
      refine ⟨_, by simp [h1, asBool], hr x (by simp [Op.operands])⟩
    · rename_i he
      rw [he] at h0
      have h1 := h0.lit_inv
      refine ⟨_, by simp [h1, asBool], hr y (by simp [Op.operands])⟩
  · -- nilCheck
    rename_i x hop
    rw [hop] at hr ⊢
    have h0 := hr x (by simp [Op.operands])
    split at h <;> simp only [forceA_eq, Option.some.injEq, Prod.mk.injEq, reduceCtorEq] at h <;> obtain ⟨rfl, rfl⟩ := h <;> try simp only [conj] at hc
    · rename_i he; rw [he] at h0; have h1 := h0.lit_inv
      exact ⟨_, by simp only [h1]; rfl, VR.lit _⟩
    · rename_i he; rw [he] at h0
      obtain ⟨ad, us, h1, h2, h3, h4⟩ := h0.rop_inv
      exact ⟨_, by simp only [h1]; rfl, VR.rop us h2.1 h3 h2.2 h4⟩
    · rename_i he; rw [he] at h0
      obtain ⟨us, vs, h1, h2, h3⟩ := h0.clo_inv
      exact ⟨_, by simp only [h1]; rfl, VR.clo us vs h2.1 h2.2 h3.1 h3.2⟩
    · rename_i he; rw [he] at h0
      obtain ⟨us, vs, h1, h2, h3⟩ := h0.clo_inv
      exact ⟨_, by simp only [h1]; rfl, VR.clo us vs h2.1 h2.2 h3.1 h3.2⟩
  · -- not
    rename_i t x hop
    rw [hop] at hr ⊢
    have h0 := hr x (by simp [Op.operands])
    split at h <;> simp only [forceA_eq, Option.some.injEq, Prod.mk.injEq, reduceCtorEq] at h <;> obtain ⟨rfl, rfl⟩ := h <;> try simp only [conj] at hc
    rename_i he; rw [he] at h0; have h1 := h0.lit_inv
    exact ⟨_, by simp [h1, Op.unary], VR.lit _⟩
  · -- neg
    rename_i t x hop
    rw [hop] at hr ⊢
    have h0 := hr x (by simp [Op.operands])
    split at h <;> simp only [forceA_eq, Option.some.injEq, Prod.mk.injEq, reduceCtorEq] at h <;> obtain ⟨rfl, rfl⟩ := h <;> try simp only [conj] at hc
    rename_i k q he; rw [he] at h0; have h1 := h0.lit_inv
    refine ⟨_, by simp only [h1, Op.unary, Op.intArith]; simp; rfl, ?_⟩
    have := inR.wrap hc
    simp only [Int.zero_sub] at this ⊢
    rw [this]; exact .lit _
  · -- binOp
    rename_i op t x y ty hop
    rw [hop] at hr ⊢
    have hx := hr x (by simp [Op.operands])
    have hy := hr y (by simp [Op.operands])
    cases hb : bin op (env.ev x) (env.ev y) with
    | some r =>
      rw [hb] at h; simp only [Option.some.injEq] at h; subst h
      obtain ⟨r, h1, h2, h3⟩ := bin_sound (P := P) (t := t) hb hc hx hy
      exact ⟨r, by simp [h3, h1], h2⟩
    | none =>
      rw [hb] at h
      simp only at h
      split at h <;> simp only [forceA_eq, Option.some.injEq, Prod.mk.injEq, reduceCtorEq] at h <;> obtain ⟨rfl, rfl⟩ := h <;> try simp only [conj] at hc
      · rename_i b he
        obtain ⟨⟨h1, h2⟩, h3⟩ := eqv_sound (P := P) he hx hy
        exact ⟨_, by simp [h3, h1], VR.lit _⟩
      · rename_i b he
        obtain ⟨⟨h1, h2⟩, h3⟩ := eqv_sound (P := P) he hx hy
        exact ⟨_, by simp [h3, h2], VR.lit _⟩
  · -- convert
    rename_i src dst x hop
    rw [hop] at hr ⊢
    have h0 := hr x (by simp [Op.operands])
    split at h <;> simp only [forceA_eq, Option.some.injEq, Prod.mk.injEq, reduceCtorEq] at h <;> obtain ⟨rfl, rfl⟩ := h <;> try simp only [conj] at hc
    · rename_i k' k k2 n hs hd he
      rw [he] at h0; have h1 := h0.lit_inv
      refine ⟨_, by simp [h1, convert, run_underlying hs, run_underlying hd, Conv.intToInt]; rfl, ?_⟩
      rw [hc.wrap]; exact .lit _
    · rename_i s hs hd he
      rw [he] at h0; have h1 := h0.lit_inv
      refine ⟨_, by simp [h1, convert, run_underlying hs, run_underlying hd], VR.lit _⟩
  · -- fieldAddr
    rename_i s x f hop
    rw [hop] at hr ⊢
    have h0 := hr x (by simp [Op.operands])
    split at h
    case h_2 => cases h
    rename_i off ty hf
    obtain ⟨fs, fd, hu, hfd, rfl, rfl⟩ := fldOf_spec hf
    split at h
    case isTrue => cases h
    rename_i hsz
    have hsr := cellsOf_run (w := w) (P := P) (t := fd.type) rfl hsz
    split at h <;> simp only [forceL_eq, forceA_eq, Option.some.injEq, Prod.mk.injEq, reduceCtorEq] at h <;> obtain ⟨rfl, rfl⟩ := h <;> try simp only [conj] at hc
    · rename_i cs he
      rw [he] at h0
      obtain ⟨ad, us, h1, h2, h3, h4⟩ := h0.rop_inv
      refine ⟨.pointer (some (ad.add fd.offset)), by simp [h1, Instr.fieldAt, Instr.sureAddr, fieldPlace, run_underlying hu, hfd, hsr, hsz], ?_⟩
      have h2' := h2.drop fd.offset
      refine .rop (us.drop fd.offset) h2'.1 (fun k u hk => ?_) h2'.2 (fun hne => ?_)
      · rw [add_add]; exact h3 _ u (by simpa using hk)
      · rw [block_of_add']; exact h4 (by rintro rfl; simp at hne)
    · rename_i g o he
      rw [he] at h0
      have h1 := h0.lit_inv
      refine ⟨.pointer (some ((⟨g, o, none⟩ : Addr).add fd.offset)), by simp [h1, Instr.fieldAt, Instr.sureAddr, fieldPlace, run_underlying hu, hfd, hsr, hsz], ?_⟩
      rw [addr_add]; exact .lit _
  · -- field
    rename_i s x f hop
    rw [hop] at hr ⊢
    have h0 := hr x (by simp [Op.operands])
    split at h
    case h_2 => cases h
    rename_i off ty cs hf he
    obtain ⟨fs, fd, hu, hfd, rfl, rfl⟩ := fldOf_spec hf
    rw [he] at h0
    obtain ⟨us, h1, h2⟩ := h0.agg_inv
    cases hagg : aggT P fd.type with
    | true =>
      rw [hagg] at h
      simp only [if_true, forceL_eq, Option.some.injEq, Prod.mk.injEq] at h
      obtain ⟨rfl, rfl⟩ := h
      have hia : (isAgg fd.type).run P w = .ok true w := by
        unfold aggT at hagg
        unfold isAgg
        cases hq : P.underlying fd.type with
        | none => rw [hq] at hagg; cases hagg
        | some d => rw [Sem.run_bind, run_underlying hq]; rw [hq] at hagg; cases d <;> simp_all
      by_cases hz : P.cellsOf fd.type = 0
      · have hs0 : ∃ n, (sizeOf fd.type).run P w = .ok n w ∧ n = 0 := by
          unfold Program.cellsOf at hz
          cases hi : P.info? fd.type with
          | none =>
            unfold aggT Program.underlying at hagg
            rw [hi] at hagg; cases hagg
          | some i => rw [hi] at hz; simp at hz; exact ⟨0, by simp [sizeOf, typeInfo, hi, hz], rfl⟩
        obtain ⟨n, hs0, rfl⟩ := hs0
        refine ⟨.agg #[], by simp [h1, Instr.field, run_underlying hu, hfd, part, hia, asAgg, hs0], ?_⟩
        rw [hz]; simpa using VR.agg (w := w) (D := H.dom) (cs := []) [] rfl (fun k x u h => by simp at h)
      · have hsr := cellsOf_run (w := w) (P := P) (t := fd.type) rfl hz
        refine ⟨.agg ((us.drop fd.offset).take (P.cellsOf fd.type)).toArray, ?_, ?_⟩
        · have : (us.toArray.extract fd.offset (fd.offset + P.cellsOf fd.type)) = ((us.drop fd.offset).take (P.cellsOf fd.type)).toArray := by
            apply Array.ext'
            simp [Array.toList_extract, List.extract_eq_take_drop]
          simp [h1, Instr.field, run_underlying hu, hfd, part, hia, asAgg, hsr, this]
        · have := (h2.drop fd.offset).take (P.cellsOf fd.type)
          exact .agg _ this.1 this.2
    | false =>
      rw [hagg] at h
      simp only [Bool.false_eq_true, if_false] at h
      split at h
      case h_2 => cases h
      rename_i d q hq hcs
      simp only [forceA_eq, Option.some.injEq, Prod.mk.injEq] at h; obtain ⟨rfl, rfl⟩ := h; try simp only [conj] at hc
      obtain ⟨u, hu1, hu2⟩ := h2.at_ hcs
      have hia : (isAgg fd.type).run P w = .ok false w := by
        unfold aggT at hagg
        unfold isAgg
        rw [Sem.run_bind, run_underlying hq]; rw [hq] at hagg; cases d <;> simp_all
      exact ⟨u, by simp [h1, Instr.field, run_underlying hu, hfd, part, hia, asAgg, hu1], hu2⟩
  · -- extract
    rename_i t i hop
    rw [hop] at hr ⊢
    have h0 := hr t (by simp [Op.operands])
    split at h
    case h_2 => cases h
    rename_i vs he
    rw [he] at h0
    obtain ⟨us, h1, h2⟩ := h0.tup_inv
    cases hv : vs[i]? with
    | none => rw [hv] at h; cases h
    | some q =>
      rw [hv] at h
      simp only [forceA_eq, Option.some.injEq, Prod.mk.injEq] at h; obtain ⟨rfl, rfl⟩ := h; try simp only [conj] at hc
      obtain ⟨u, hu1, hu2⟩ := h2.at_ hv
      exact ⟨u, by simp [h1, Instr.extract, hu1], hu2⟩
  · -- makeInterface
    rename_i t x hop
    rw [hop] at hr ⊢
    have h0 := hr x (by simp [Op.operands])
    split at h <;> simp only [forceA_eq, Option.some.injEq, Prod.mk.injEq, reduceCtorEq] at h <;> obtain ⟨rfl, rfl⟩ := h <;> try simp only [conj] at hc
    rename_i d hni hu
    refine ⟨.iface t (a.eval x), ?_, VR.ifc h0⟩
    simp only [Instr.makeInterface, Sem.run_bind, run_underlying hu, Result.andThen_ok]
    cases d <;> first | rfl | (exact (hni _ hu).elim)
  · -- makeFunc
    rename_i f first captured hop
    rw [hop] at hr ⊢
    simp only [forceL_eq, forceA_eq, Option.some.injEq, Prod.mk.injEq] at h; obtain ⟨rfl, rfl⟩ := h; try simp only [conj] at hc
    refine ⟨.func f (first.map a.eval) (captured.map a.eval), by simp [Instr.makeFunc], ?_⟩
    have e1 : first.map a.eval = (first.toList.map a.eval).toArray := by apply Array.ext'; rw [Array.toList_map]
    have e2 : captured.map a.eval = (captured.toList.map a.eval).toArray := by apply Array.ext'; rw [Array.toList_map]
    rw [e1, e2]
    refine .clo _ _ (by simp) (fun k x u hx hu => ?_) (by simp) (fun k x u hx hu => ?_)
    · rw [List.getElem?_map] at hx hu
      cases hq : first.toList[k]? with
      | none => rw [hq] at hx; cases hx
      | some y =>
        rw [hq] at hx hu
        simp only [Option.map_some, Option.some.injEq] at hx hu
        subst hx; subst hu
        exact hr y (Array.mem_append.2 (.inl (Array.mem_toList_iff.1 (List.mem_of_getElem? hq))))
    · rw [List.getElem?_map] at hx hu
      cases hq : captured.toList[k]? with
      | none => rw [hq] at hx; cases hx
      | some y =>
        rw [hq] at hx hu
        simp only [Option.map_some, Option.some.injEq] at hx hu
        subst hx; subst hu
        exact hr y (Array.mem_append.2 (.inr (Array.mem_toList_iff.1 (List.mem_of_getElem? hq))))
  · -- len
    rename_i args ts hop
    rw [hop] at hr ⊢
    split at h
    case h_2 => cases h
    rename_i x t hx ht
    have ha : args = #[x] := by apply Array.ext'; simpa using hx
    have hts : ts = #[t] := by apply Array.ext'; simpa using ht
    subst ha; subst hts
    cases hl : lenA P t (env.ev x) with
    | none => rw [hl] at h; cases h
    | some n =>
      rw [hl] at h
      simp only [forceA_eq, Option.some.injEq, Prod.mk.injEq] at h; obtain ⟨rfl, rfl⟩ := h; try simp only [conj] at hc
      have h0 := hr x (by simp [Op.operands, Call.operands])
      refine ⟨_, ?_, VR.lit _⟩
      simp only [resolve, Sem.run_bind, Sem.run_pure, Result.andThen_ok, invoke, builtin, List.map_toArray, List.map_cons, List.map_nil, lenA_sound (P := P) hl h0]
  · -- min
    rename_i args ts hop
    rw [hop] at hr ⊢
    split at h
    case h_2 => cases h
    rename_i x y hx
    have ha : args = #[x, y] := by apply Array.ext'; simpa using hx
    subst ha
    split at h
    case h_2 => cases h
    rename_i k a' k' b' hx' hy'
    simp only [forceA_eq, Option.some.injEq, Prod.mk.injEq] at h; obtain ⟨rfl, rfl⟩ := h; try simp only [conj] at hc
    have h0 := hr x (by simp [Op.operands, Call.operands])
    have h1 := hr y (by simp [Op.operands, Call.operands])
    rw [hx'] at h0; rw [hy'] at h1
    have e0 := h0.lit_inv; have e1 := h1.lit_inv
    refine ⟨_, ?_, VR.lit _⟩
    simp [resolve, invoke, builtin, Builtin.min_, Builtin.min2, e0, e1]
  · -- max
    rename_i args ts hop
    rw [hop] at hr ⊢
    split at h
    case h_2 => cases h
    rename_i x y hx
    have ha : args = #[x, y] := by apply Array.ext'; simpa using hx
    subst ha
    split at h
    case h_2 => cases h
    rename_i k a' k' b' hx' hy'
    simp only [forceA_eq, Option.some.injEq, Prod.mk.injEq] at h; obtain ⟨rfl, rfl⟩ := h; try simp only [conj] at hc
    have h0 := hr x (by simp [Op.operands, Call.operands])
    have h1 := hr y (by simp [Op.operands, Call.operands])
    rw [hx'] at h0; rw [hy'] at h1
    have e0 := h0.lit_inv; have e1 := h1.lit_inv
    refine ⟨_, ?_, VR.lit _⟩
    simp [resolve, invoke, builtin, Builtin.max_, Builtin.max2, e0, e1]
  · -- index
    rename_i t x i hop
    rw [hop] at hr ⊢
    split at h <;> simp only [forceA_eq, Option.some.injEq, Prod.mk.injEq, reduceCtorEq] at h <;> obtain ⟨rfl, rfl⟩ := h <;> try simp only [conj] at hc
    rename_i l kk k hu hx hi
    have h0 := hr x (by simp [Op.operands])
    have h1 := hr i (by simp [Op.operands])
    rw [hx] at h0; rw [hi] at h1
    have e0 := h0.lit_inv; have e1 := h1.lit_inv
    refine ⟨_, ?_, .lit _⟩
    have hg : (ByteArray.mk ⟨l⟩)[k.toNat]? = some (l.getD k.toNat 0) := by
      rw [ByteArray.getElem?_lt' _ _ hc.2]
      show some l[k.toNat] = _
      rw [List.getD_eq_getElem?_getD, List.getElem?_eq_getElem hc.2]; rfl
    simp only [e0, e1, Instr.index, asIntOf, Sem.run_bind, Sem.run_pure, Result.andThen_ok, run_underlying hu]
    rw [if_pos hc.1]
    simp only [hg, Sem.run_pure, Result.andThen_ok]
  · -- build
    rename_i t parts hop
    rw [hop] at hr ⊢
    cases hz : zeroA P t with
    | none => rw [hz] at h; simp at h
    | some z =>
      cases hp : placesOf P t with
      | none => rw [hz, hp] at h; simp at h
      | some pl =>
        rw [hz, hp] at h
        simp only at h
        cases hf : fillA pl z (parts.toList.map fun p => (p.1, env.ev p.2)) with
        | none => rw [hf] at h; cases h
        | some cs =>
          rw [hf] at h
          simp only [forceL_eq, forceA_eq, Option.some.injEq, Prod.mk.injEq] at h; obtain ⟨rfl, rfl⟩ := h; try simp only [conj] at hc
          unfold zeroA at hz
          cases hi : P.info? t with
          | none => rw [hi] at hz; cases hz
          | some it =>
            rw [hi] at hz
            simp only at hz
            cases hz2 : it.zero with
            | none => rw [hz2] at hz; cases hz
            | some zz =>
              rw [hz2] at hz
              simp only [Option.some.injEq] at hz
              subst hz
              have hzv : VRs w H.dom (zz.cells.toList.map ofCell) zz.cells.toList := VRs.map_cell _
              obtain ⟨us', hf1, hf2⟩ := fill_sound pl _ (parts.toList.map fun p => (p.1, a.eval p.2)) _ zz.cells _ hzv hf (by simp) (fun k p q h1 h2 => by
                rw [List.getElem?_map] at h1 h2
                cases hq : parts.toList[k]? with
                | none => rw [hq] at h1; cases h1
                | some y =>
                  rw [hq] at h1 h2
                  simp only [Option.map_some, Option.some.injEq] at h1 h2
                  subst h1; subst h2
                  refine ⟨rfl, hr y.2 ?_⟩
                  simp only [Op.operands, List.mem_toArray, List.mem_map]
                  exact ⟨y, List.mem_of_getElem? hq, rfl⟩)
              have hb : P.built t (parts.toList.map fun p => (p.1, a.eval p.2)) = some us' := by
                unfold Program.built
                unfold placesOf at hp
                rw [hi] at hp ⊢
                cases hu : P.underlying t with
                | none => rw [hu] at hp; simp at hp
                | some d =>
                  rw [hu] at hp
                  cases d <;> simp only [Option.some.injEq, reduceCtorEq] at hp
                  · rename_i n e
                    simp only [hz2]
                    cases hie : P.info? e with
                    | none => rw [hie] at hp; cases hp
                    | some ie => rw [hie] at hp; simp only [Option.some.injEq] at hp; subst hp; exact hf1
                  · rename_i fields
                    simp only [hz2]
                    cases hie : fields.toList.mapM (fun f => (P.info? f.type).map fun i => (f.offset, i.size)) with
                    | none => rw [hie] at hp; cases hp
                    | some ie => rw [hie] at hp; simp only [Option.some.injEq] at hp; subst hp; exact hf1
              refine ⟨.agg us', ?_, ?_⟩
              · have := run_build (P := P) w t (parts.map fun p => (p.1, a.eval p.2)) us' (by rw [Array.toList_map]; exact hb)
                simp only [Sem.run_bind, this, Result.andThen_ok, Sem.run_pure]
              · exact .agg us'.toList hf2.1 hf2.2
  · -- slice
    rename_i t x lo hi mx hop
    rw [hop] at hr ⊢
    have h0 := hr x (by simp [Op.operands])
    obtain ⟨v', h1, h2⟩ := sliceA_sound (w := w) (D := H.dom) h hc h0 (ul := lo.map a.eval) (uh := hi.map a.eval) (um := mx.map a.eval) (by simp) (fun p q hp hq => by
        cases lo with
        | none => cases hp
        | some y => simp only [Option.map_some, Option.some.injEq] at hp hq; subst hp; subst hq; exact hr y (by simp [Op.operands])) (by simp) (fun p q hp hq => by
        cases hi with
        | none => cases hp
        | some y => simp only [Option.map_some, Option.some.injEq] at hp hq; subst hp; subst hq; exact hr y (by simp [Op.operands])) (by simp) (fun p q hp hq => by
        cases mx with
        | none => cases hp
        | some y => simp only [Option.map_some, Option.some.injEq] at hp hq; subst hp; subst hq; exact hr y (by simp [Op.operands]))
    exact ⟨v', by simp only [Sem.run_bind, h1, Result.andThen_ok, Sem.run_pure], h2⟩
  · cases h
end Go.Vc
set_option linter.unusedVariables false
set_option linter.unusedSimpArgs false
namespace Go.Vc
open Go
def head1 : List AV → Option AV
 | x :: _ => forceA x some
 | [] => none
def ldv (P : Program) (t : TypeId) (cs : List AV) : Option AV :=
 match P.underlying t with
 | none => none
 | some (.struct _) | some (.array _ _) => if P.cellsOf t = 0 then none else if P.cellsOf t ≤ cs.length then forceL (cs.take (P.cellsOf t)) (fun l => some (.agg l)) else none
 | some _ => head1 cs
def AObj.flat : AObj → Option (List AV)
 | .cells _ cs => some cs
 | .row _ _ es _ => some es.flatten
 | .raw _ => none
 | .map _ => none
 | .loop _ _ _ => none
 | .ro vs => some (vs.map .lit)
 | .mopen _ _ _ => none
theorem ldv_sound {P : Program} {w : World} {D : Nat → Prop} {t : TypeId} {cs : List AV} {us : List Value} {a : Addr} {v : AV} (hv : VRs w D cs us) (hc : ∀ (k : Nat) (u : Value), us[k]? = some u → w.cell? (a.add k) = some u)
    (h : ldv P t cs = some v) : ∃ v', (loadVar t a).run P w = .ok v' w ∧ VR w D v v' := by
  unfold ldv at h
  have agg : ∀ d, P.underlying t = some d → (isAgg t).run P w = .ok (match d with | .struct _ | .array _ _ => true | _ => false) w := fun d hd => by
    unfold isAgg; rw [Sem.run_bind, run_underlying hd]; cases d <;> rfl
  have big : ∀ d, P.underlying t = some d → (match d with | .struct _ | .array _ _ => true | _ => false) = true → (if P.cellsOf t = 0 then none else if P.cellsOf t ≤ cs.length then forceL (cs.take (P.cellsOf t)) (fun l => some (AV.agg l)) else none) = some v → ∃ v', (loadVar t a).run P w = .ok v' w ∧ VR w D v v' := by
    intro d hd hagg h
    split at h
    · cases h
    rename_i hz
    split at h
    · rename_i hle
      rw [forceL_eq] at h
      injection h with h; subst h
      have hs := cellsOf_run (w := w) (P := P) (t := t) rfl hz
      have h2 := hv.take (P.cellsOf t)
      have hl := run_loadCells_list (P := P) w a (us.take (P.cellsOf t)) (fun j u hu => by
        rw [List.getElem?_take] at hu
        split at hu
        · exact hc j u hu
        · cases hu)
      have hlen : (us.take (P.cellsOf t)).length = P.cellsOf t := by rw [h2.1]; simp; omega
      rw [hlen] at hl
      refine ⟨.agg (us.take (P.cellsOf t)).toArray, ?_, .agg _ h2.1 h2.2⟩
      simp only [loadVar, Sem.run_bind, agg d hd, hagg, Result.andThen_ok, if_true, hs, hl, Sem.run_pure]
    · cases h
  have small : ∀ d, P.underlying t = some d → (match d with | .struct _ | .array _ _ => true | _ => false) = false → head1 cs = some v → ∃ v', (loadVar t a).run P w = .ok v' w ∧ VR w D v v' := by
    intro d hd hagg h
    cases cs with
    | nil => cases h
    | cons x xs =>
      simp only [head1, forceA_eq, Option.some.injEq] at h
      subst h
      obtain ⟨u, us', rfl, h1, h2⟩ := hv.cons_inv
      have h0 := hc 0 u rfl
      have : a.add 0 = a := by simp [Addr.add]
      rw [this] at h0
      exact ⟨u, by simp [loadVar, agg d hd, hagg, h0], h1⟩
  cases hd : P.underlying t with
  | none => rw [hd] at h; cases h
  | some d =>
    rw [hd] at h
    cases d <;> first
      | exact big _ hd rfl h
      | exact small _ hd rfl h
theorem ldv_append {P : Program} {t : TypeId} {cs : List AV} {v : AV} (h : ldv P t cs = some v) (r : List AV) : ldv P t (cs ++ r) = some v := by
  unfold ldv at h ⊢
  cases hd : P.underlying t with
  | none => rw [hd] at h; cases h
  | some d =>
    rw [hd] at h
    cases d <;> simp only [forceL_eq] at h ⊢ <;> first
      | (cases cs with
        | nil => cases h
        | cons x xs => exact h)
      | (split at h
         · cases h
         rename_i hz
         rw [if_neg hz]
         split at h
         · rename_i hle
           rw [if_pos (by simp; omega), List.take_append, show P.cellsOf t - cs.length = 0 by omega]
           simpa using h
         · cases h)
section ex
variable {P : Program} {o : Oper} {env : Env} {H : Heap}
theorem uG {t : TypeId} {x : Operand} {cs : List AV} {v : AV} (ho : o.op = .load t x) (hx : env.ev x = .rop cs) (hl : ldv P t cs = some v) : Exact P o env H v := by
 apply vB (by simp [noDefer, ho])
 intro a w ⟨hr, hh⟩
 rw [ho] at hr
 have h0 := hr x (by simp [Op.operands])
 rw [hx] at h0
 obtain ⟨ad, us, h1, h2, h3, h4⟩ := h0.rop_inv
 obtain ⟨v', h5, h6⟩ := ldv_sound h2 h3 hl
 exact ⟨v', by unfold execOp; rw [ho]; simp [h1, Instr.loadAt, Instr.sureAddr, h5], h6⟩
theorem ObjR.flat {w : World} {D : Nat → Prop} {g : Nat} {ob : AObj} {cs : List AV} (h : ObjR w D g ob) (hf : ob.flat = some cs) : ∃ us, VRs w D cs us ∧ ∀ (k : Nat) (u : Value), us[k]? = some u → w.cell? ⟨g, k, none⟩ = some u := by
  cases ob with
  | cells t cs' =>
    simp only [AObj.flat, Option.some.injEq] at hf; subst hf
    obtain ⟨us, h1, h2⟩ := h
    exact ⟨us, h2, fun k u hu => by rw [cell_of_row w g k _ _ _ h1]; simpa using hu⟩
  | row t size es cap =>
    simp only [AObj.flat, Option.some.injEq] at hf; subst hf
    obtain ⟨cur, h1, h2, h3, h4, h5, h6⟩ := h
    exact ⟨_, h6, fun k u hu => by
      rw [cell_of_row w g k _ _ _ h1]
      rw [List.getElem?_take] at hu
      split at hu
      · simpa using hu
      · cases hu⟩
  | raw o => cases hf
  | map es => cases hf
  | loop N env rec => cases hf
  | ro vs =>
    simp only [AObj.flat, Option.some.injEq] at hf; subst hf
    obtain ⟨cur, t, z, h1, h2⟩ := h
    exact ⟨vs, VRs.map_lit vs, fun k u hu => by simp [World.cell?, h1]; exact h2 k u hu⟩
  | mopen ents clock vs => cases hf
theorem Exact.load {t : TypeId} {x : Operand} {g off : Nat} {ob : AObj} {cs : List AV} {v : AV} (ho : o.op = .load t x) (hx : env.ev x = .lit (.pointer (some ⟨g, off, none⟩))) (hg : H g = some ob) (hf : ob.flat = some cs) (hl : ldv P t (cs.drop off) = some v) : Exact P o env H v := by
 apply vB (by simp [noDefer, ho])
 intro a w ⟨hr, hh⟩
 rw [ho] at hr
 have h0 := hr x (by simp [Op.operands])
 rw [hx] at h0
 have h1 := h0.lit_inv
 obtain ⟨us, h2, h3⟩ := (hh g ob hg).flat hf
 obtain ⟨v', h5, h6⟩ := ldv_sound (a := ⟨g, off, none⟩) (h2.drop off) (fun k u hu => by rw [addr_add]; exact h3 _ u (by simpa using hu)) hl
 exact ⟨v', by unfold execOp; rw [ho]; simp [h1, Instr.loadAt, Instr.sureAddr, h5], h6⟩
theorem drop_flat {α : Type} {size : Nat} {es : List (List α)} {i f : Nat} {e : List α} (hs : ∀ e ∈ es, e.length = size) (he : es[i]? = some e) (hf : f ≤ size) : es.flatten.drop (i * size + f) = e.drop f ++ (es.drop (i + 1)).flatten := by
 rw [← List.drop_drop, ← flatten_drop es i hs]
 have hi : i < es.length := (List.getElem?_eq_some_iff.1 he).1
 have h1 : es.drop i = e :: es.drop (i + 1) := by
  rw [List.drop_eq_getElem_cons hi]
  congr 1
  exact (List.getElem?_eq_some_iff.1 he).2
 rw [h1, List.flatten_cons, List.drop_append, show f - e.length = 0 by rw [hs e (List.mem_of_getElem? he)]; omega]
 simp
theorem Exact.load_row {t ty : TypeId} {x : Operand} {g off size i f cap : Nat} {es : List (List AV)} {e : List AV} {v : AV} (ho : o.op = .load t x) (hx : env.ev x = .lit (.pointer (some ⟨g, off, none⟩))) (hg : H g = some (.row ty size es cap))
  (hoff : off = i * size + f) (hf : f ≤ size) (he : es[i]? = some e) (hl : ldv P t (e.drop f) = some v) : Exact P o env H v := by
 intro rd n a w r
 have hs : ∀ e ∈ es, e.length = size := by
  obtain ⟨cur, _, _, _, _, h5, _⟩ := r.2 g _ hg
  exact h5
 exact Exact.load ho hx hg rfl (by rw [hoff, drop_flat hs he hf]; exact ldv_append hl _) rd n a w r
theorem Exact.indexAddr_rows {t e0 : TypeId} {x i : Operand} {k0 : IntKind} {size k : Nat} {es : List (List AV)} {e : List AV} (ho : o.op = .indexAddr t x i) (hx : env.ev x = .rows size es) (hi : env.ev i = .lit (.int k0 (.ofNat k))) (he : es[k]? = some e)
    (ht : elemT P t = some e0) (hsz : P.cellsOf e0 = size) (hz : size ≠ 0) : Exact P o env H (.rop e) := by
  apply vB (by simp [noDefer, ho])
  intro a w ⟨hr, hh⟩
  rw [ho] at hr
  have h0 := hr x (by simp [Op.operands])
  have h1 := hr i (by simp [Op.operands])
  rw [hx] at h0; rw [hi] at h1
  rcases h0.rows_inv with ⟨h, _⟩ | ⟨ad, cap, us, e1, g1, g2, g3, g4, g5⟩
  · rw [h] at he; simp at he
  have e2 := h1.lit_inv
  have hlt : k < es.length := (List.getElem?_eq_some_iff.1 he).1
  have hu : P.underlying t = some (.slice e0) := by
    unfold elemT at ht
    cases hq : P.underlying t with
    | none => rw [hq] at ht; cases ht
    | some d => rw [hq] at ht; cases d <;> simp_all
  have hso := cellsOf_run (w := w) (P := P) (t := e0) hsz hz
  have hd := drop_flat (f := 0) g4 he (Nat.zero_le _)
  simp only [Nat.add_zero, List.drop_zero] at hd
  have hv := g1.drop (k * size)
  rw [hd] at hv
  have hv2 := hv.take e.length
  rw [List.take_left] at hv2
  have c1 : (0 : Int) ≤ Int.ofNat k ∧ Int.ofNat k < (es.length : Int) := ⟨Int.natCast_nonneg _, by show (k : Int) < _; omega⟩
  refine ⟨.pointer (some (ad.add (k * size))), ?_, .rop _ hv2.1 (fun j u hu => ?_) hv2.2 (fun hne => ?_)⟩
  · unfold execOp
    rw [ho]
    simp only [e1, e2, Instr.indexAt, asIntOf, Sem.run_bind, Sem.run_pure, Result.andThen_ok, run_underlying hu]
    simp only [Sem.run_ite, if_pos c1, Sem.run_bind, hso, Result.andThen_ok, Sem.run_pure, show (Int.ofNat k).toNat = k from rfl]
  · rw [add_add]
    rw [List.getElem?_take] at hu
    split at hu
    · exact g2 _ u (by simpa using hu)
    · cases hu
  · rw [block_of_add']
    exact g3 (by rintro rfl; simp at hne)
theorem Exact.indexAddr_buf {t e0 : TypeId} {x i : Operand} {k0 : IntKind} {size k g n c : Nat} (ho : o.op = .indexAddr t x i) (hx : env.ev x = .buf g n c) (hi : env.ev i = .lit (.int k0 (.ofNat k))) (hk : k < n)
    (ht : elemT P t = some e0) (hsz : P.cellsOf e0 = size) (hz : size ≠ 0) : Exact P o env H (.lit (.pointer (some ⟨g, k * size, none⟩))) := by
  apply vB (by simp [noDefer, ho])
  intro a w ⟨hr, hh⟩
  rw [ho] at hr
  have h0 := hr x (by simp [Op.operands])
  have h1 := hr i (by simp [Op.operands])
  rw [hx] at h0; rw [hi] at h1
  have e1 := h0.buf_inv
  have e2 := h1.lit_inv
  have hu : P.underlying t = some (.slice e0) := by
    unfold elemT at ht
    cases hq : P.underlying t with
    | none => rw [hq] at ht; cases ht
    | some d => rw [hq] at ht; cases d <;> simp_all
  have hso := cellsOf_run (w := w) (P := P) (t := e0) hsz hz
  have c1 : (0 : Int) ≤ Int.ofNat k ∧ Int.ofNat k < (n : Int) := ⟨Int.natCast_nonneg _, by show (k : Int) < _; omega⟩
  refine ⟨.pointer (some ((⟨g, 0, none⟩ : Addr).add (k * size))), ?_, ?_⟩
  · unfold execOp
    rw [ho]
    simp only [e1, e2, Instr.indexAt, asIntOf, Sem.run_bind, Sem.run_pure, Result.andThen_ok, run_underlying hu]
    simp only [Sem.run_ite, if_pos c1, Sem.run_bind, hso, Result.andThen_ok, Sem.run_pure, show (Int.ofNat k).toNat = k from rfl]
  · rw [addr_add, Nat.zero_add]; exact .lit _
end ex
theorem cells_one {w : World} {D : Nat → Prop} {xs : List AV} {us : List Value} (h : VRs w D xs us) (h1 : xs.all AV.one = true) : ∀ u ∈ us, u.oneCell' = true := fun u hu => by
 obtain ⟨k, hk⟩ := List.mem_iff_getElem?.1 hu
 have hlt : k < xs.length := by rw [← h.1]; exact (List.getElem?_eq_some_iff.1 hk).1
 have := h.2 k xs[k] u (List.getElem?_eq_getElem hlt) hk
 exact this.one (List.all_eq_true.1 h1 _ (List.getElem_mem hlt))
section mem
variable {P : Program} {o : Oper} {env : Env} {H : Heap} {K : AV → Heap → Prop} {E : List PanicEntry → Heap → Prop}
theorem setRow_evol {w : World} {g : Nat} (cs : Array Value) (ob : AObj) (hg : H.dom g) : Evol H w (H.set g ob) (w.setRow g cs) :=
 Evol.write ob hg rfl rfl rfl (size_setRow w g cs) (fun k hk => setRow_other w g k cs hk)
theorem run_store_block {w : World} {g off : Nat} {t ty : TypeId} {cur : Array Value} (hg : w.heap[g]? = some (.cells cur ty (0, 0))) {v : Value} (h1 : ∀ u ∈ v.cells.toList, u.oneCell' = true) (hs : P.cellsOf t = v.cells.size) (hz : v.cells.size ≠ 0) (hfit : off + v.cells.size ≤ cur.size) :
  (Instr.storeAt t (.pointer (some ⟨g, off, none⟩)) v).run P w = .ok () (w.setRow g (cur.toList.take off ++ v.cells.toList ++ cur.toList.drop (off + v.cells.size)).toArray) := by
 have hso := cellsOf_run (w := w) (P := P) (t := t) hs hz
 have := run_storeCells_at P g off ty v.cells.toList 0 cur w hg (by simpa using hfit) h1
 simp only [Nat.add_zero] at this
 simp only [Instr.storeAt, Instr.sureAddr, Sem.run_bind, Sem.run_pure, Result.andThen_ok, storeVar, hso]
 simp [this]
theorem WpO.store {t ty : TypeId} {x y : Operand} {g off : Nat} {cs cs' : List AV} {v : AV} (ho : o.op = .store t x y) (hx : env.ev x = .lit (.pointer (some ⟨g, off, none⟩))) (hg : H g = some (.cells ty cs)) (hy : env.ev y = v)
  (h1 : (cellsA v).all AV.one = true) (hs : P.cellsOf t = (cellsA v).length) (hz : (cellsA v).length ≠ 0) (hfit : off + (cellsA v).length ≤ cs.length) (hc : forceL (spliceA cs off (cellsA v)) some = some cs') (hk : K (.lit undef) (H.set g (.cells ty cs'))) : WpO P o env H K E := by
 rw [forceL_eq] at hc
 injection hc with hc; subst hc
 apply WpO.of_skip (by simp [noDefer, ho])
 intro a w ⟨hr, hh⟩
 rw [ho] at hr
 have h0 := hr x (by simp [Op.operands])
 have h2 := hr y (by simp [Op.operands])
 rw [hx] at h0; rw [hy] at h2
 have e0 := h0.lit_inv
 have hv := h2.cells
 obtain ⟨us, g1, g2⟩ := hh g _ hg
 have hl1 : (a.eval y).cells.size = (cellsA v).length := by rw [← hv.1]; simp
 have hl2 : us.toArray.size = cs.length := by simp [g2.1]
 have hrun := run_store_block (P := P) (t := t) (off := off) g1 (cells_one hv h1) (by rw [hl1]; exact hs) (by rw [hl1]; exact hz) (by rw [hl1, hl2]; exact hfit)
 have hd : H.dom g := ⟨_, hg, rfl⟩
 have ev := setRow_evol (w := w) (us.take off ++ (a.eval y).cells.toList ++ us.drop (off + (a.eval y).cells.size)).toArray (.cells ty (spliceA cs off (cellsA v))) hd
 refine ⟨H.set g (.cells ty (spliceA cs off (cellsA v))), _, ?_, ev, ?_, hk⟩
 ·unfold execOp; rw [ho]
  simp only [e0, Sem.run_bind, hrun, Result.andThen_ok, Sem.run_pure]
 ·refine vU _ hh ev (fun k hk => setRow_other w g k _ hk) ⟨_, setRow_heap w g _ _ _ _ g1, ?_⟩
  have := (g2.splice hv off).evol ev
  simpa using this
theorem WpO.store_row {t ty : TypeId} {x y : Operand} {g off i f size cap : Nat} {es : List (List AV)} {e e' : List AV} {v : AV} (ho : o.op = .store t x y) (hx : env.ev x = .lit (.pointer (some ⟨g, off, none⟩))) (hg : H g = some (.row ty size es cap)) (hy : env.ev y = v)
  (hoff : off = i * size + f) (he : es[i]? = some e) (h1 : (cellsA v).all AV.one = true) (hs : P.cellsOf t = (cellsA v).length) (hz : (cellsA v).length ≠ 0) (hfit : f + (cellsA v).length ≤ size) (hc : forceL (spliceA e f (cellsA v)) some = some e') (hk : K (.lit undef) (H.set g (.row ty size (es.set i e') cap))) : WpO P o env H K E := by
 rw [forceL_eq] at hc
 injection hc with hc; subst hc
 apply WpO.of_skip (by simp [noDefer, ho])
 intro a w ⟨hr, hh⟩
 rw [ho] at hr
 have h0 := hr x (by simp [Op.operands])
 have h2 := hr y (by simp [Op.operands])
 rw [hx] at h0; rw [hy] at h2
 have e0 := h0.lit_inv
 have hv := h2.cells
 obtain ⟨cur, g1, g2, g3, g4, g5, g6⟩ := hh g _ hg
 have hi : i < es.length := (List.getElem?_eq_some_iff.1 he).1
 have hel : e.length = size := g5 e (List.mem_of_getElem? he)
 have hl1 : (a.eval y).cells.size = (cellsA v).length := by rw [← hv.1]; simp
 have hmul : (i + 1) * size ≤ es.length * size := Nat.mul_le_mul_right _ hi
 have hmul2 : es.length * size ≤ cap * size := Nat.mul_le_mul_right _ g3
 rw [Nat.add_mul, Nat.one_mul] at hmul
 have hfit2 : off + (cellsA v).length ≤ es.length * size := by omega
 have hrun := run_store_block (P := P) (t := t) (off := off) g1 (cells_one hv h1) (by rw [hl1]; exact hs) (by rw [hl1]; exact hz) (by rw [hl1, g2]; omega)
 have hd : H.dom g := ⟨_, hg, rfl⟩
 have ev := setRow_evol (w := w) (cur.toList.take off ++ (a.eval y).cells.toList ++ cur.toList.drop (off + (a.eval y).cells.size)).toArray (.row ty size (es.set i (spliceA e f (cellsA v))) cap) hd
 refine ⟨_, _, ?_, ev, ?_, hk⟩
 ·unfold execOp; rw [ho]
  simp only [e0, Sem.run_bind, hrun, Result.andThen_ok, Sem.run_pure]
 ·have hsl : (spliceA e f (cellsA v)).length = size := by simp only [spliceA, List.length_append, List.length_take, List.length_drop]; omega
  have hfl : (es.set i (spliceA e f (cellsA v))).flatten = spliceA es.flatten off (cellsA v) := by
   have hset : es.set i (spliceA e f (cellsA v)) = es.take i ++ spliceA e f (cellsA v) :: es.drop (i + 1) := List.set_eq_take_append_cons_drop.trans (by rw [if_pos hi])
   have hes : es.flatten = (es.take i).flatten ++ e ++ (es.drop (i + 1)).flatten := by
    conv => lhs; rw [← List.take_append_drop i es]
    rw [List.flatten_append]
    have h1 : es.drop i = e :: es.drop (i + 1) := by
     rw [List.drop_eq_getElem_cons hi]; congr 1; exact (List.getElem?_eq_some_iff.1 he).2
    rw [h1, List.flatten_cons, List.append_assoc]
   have hlt : (es.take i).flatten.length = i * size := by
    rw [flatten_take es i g5, List.length_take, flatten_length es g5]; omega
   rw [hset, List.flatten_append, List.flatten_cons, hes]
   unfold spliceA
   rw [hoff]
   simp only [List.append_assoc]
   rw [List.take_append, List.drop_append, hlt]
   rw [List.take_of_length_le (by omega : (es.take i).flatten.length ≤ i * size + f), show (es.take i).flatten.drop (i * size + f + (cellsA v).length) = [] from List.drop_eq_nil_of_le (by omega)]
   rw [show i * size + f - i * size = f by omega, show i * size + f + (cellsA v).length - i * size = f + (cellsA v).length by omega]
   rw [List.take_append, List.drop_append, show f - e.length = 0 by omega, show f + (cellsA v).length - e.length = 0 by omega]
   simp
  refine vU _ hh ev (fun k hk => setRow_other w g k _ hk) ⟨_, setRow_heap w g _ _ _ _ g1, ?_, by simpa using g3, g4, ?_, ?_⟩
  ·simp only [List.size_toArray, List.length_append, List.length_take, List.length_drop, Array.length_toList]; omega
  ·intro q hq
   rcases List.mem_or_eq_of_mem_set hq with h | h
   ·exact g5 q h
   ·rw [h]; exact hsl
  ·rw [hfl]
   have := (g6.splice hv off).evol ev
   have hsame : ((cur.toList.take (es.length * size)).take off ++ (a.eval y).cells.toList ++ (cur.toList.take (es.length * size)).drop (off + (a.eval y).cells.toList.length)) = (cur.toList.take off ++ (a.eval y).cells.toList ++ cur.toList.drop (off + (a.eval y).cells.size)).toArray.toList.take ((es.set i (spliceA e f (cellsA v))).length * size) := by
    simp only [List.length_set, Array.length_toList]
    apply List.ext_getElem?
    intro j
    have hcs : cur.size = cap * size := g2
    have e1 : min off cur.size = off := by omega
    have e2 : min off (es.length * size) = off := by omega
    simp only [List.getElem?_append, List.getElem?_take, List.getElem?_drop, List.length_append, List.length_take, Array.length_toList, List.getElem?_toArray, hl1]
    have e3 : min (es.length * size) cur.size = es.length * size := by omega
    rw [e3, e1, e2]
    by_cases c1 : j < off
    ·have a1 : j < off + (cellsA v).length := by omega
     have a2 : j < es.length * size := by omega
     simp [c1, a1, a2]
    ·by_cases c2 : j < off + (cellsA v).length
     ·have a2 : j < es.length * size := by omega
      simp [c1, c2, a2]
     ·simp only [c1, c2, if_false]
      by_cases a2 : j < es.length * size
      ·have a3 : off + (cellsA v).length + (j - (off + (cellsA v).length)) < es.length * size := by omega
       simp [a2, a3]
      ·have a3 : ¬ off + (cellsA v).length + (j - (off + (cellsA v).length)) < es.length * size := by omega
       simp [a2, a3]
   rw [hsame] at this
   exact this
theorem WpO.alloc {t : TypeId} {z : List AV} (ho : o.op = .alloc t) (hz : zeroA P t = some z) (hk : ∀ g, H g = none → K (.lit (.pointer (some ⟨g, 0, none⟩))) (H.set g (.cells t z))) : WpO P o env H K E := by
  apply vQ (by simp [noDefer, ho])
  intro a w ⟨hr, hh⟩
  unfold zeroA at hz
  cases hi : P.info? t with
  | none => rw [hi] at hz; cases hz
  | some it =>
    rw [hi] at hz
    simp only at hz
    cases hz2 : it.zero with
    | none => rw [hz2] at hz; cases hz
    | some zz =>
      rw [hz2] at hz
      simp only [Option.some.injEq] at hz
      subst hz
      refine ⟨_, .pointer (some ⟨w.heap.size, 0, none⟩), _, w.alloc (.cells zz.cells t), ?_, Evol.alloc (.cells zz.cells t) (.cells t (zz.cells.toList.map ofCell)), ?_, .lit _, hk _ (hh.fresh (Nat.le_refl _))⟩
      · unfold execOp; rw [ho]
        have hzv : (zeroValue t).run P w = .ok zz w := by simp [zeroValue, typeInfo, hi, hz2]
        simp [Instr.alloc, hzv, newVar, newRow]
      · exact hh.alloc _ _ ⟨zz.cells.toList, by rw [Array.toArray_toList]; exact heap_alloc_new w _, VRs.map_cell _⟩
theorem WpO.box {t : TypeId} {x : Operand} {v : AV} (ho : o.op = .box t x) (hx : env.ev x = v) (hk : ∀ g, H g = none → K (.lit (.pointer (some ⟨g, 0, none⟩))) (H.set g (.cells t (cellsA v)))) : WpO P o env H K E := by
 apply vQ (by simp [noDefer, ho])
 intro a w ⟨hr, hh⟩
 rw [ho] at hr
 have h0 := hr x (by simp [Op.operands])
 rw [hx] at h0
 have hv := h0.cells
 have ev : Evol H w (H.set w.heap.size (.cells t (cellsA v))) (w.alloc (.cells (a.eval x).cells t)) := Evol.alloc _ _
 refine ⟨_, .pointer (some ⟨w.heap.size, 0, none⟩), _, _, ?_, ev, ?_, .lit _, hk _ (hh.fresh (Nat.le_refl _))⟩
 ·unfold execOp; rw [ho]
  simp [Instr.box, newVar, newRow]
 ·exact hh.alloc _ _ ⟨(a.eval x).cells.toList, by rw [Array.toArray_toList]; exact heap_alloc_new w _, hv.evol ev⟩
def chunks (size : Nat) : Nat → List AV → List (List AV)
 | 0, _ => []
 | n + 1, cs => cs.take size :: chunks size n (cs.drop size)
theorem chunks_flatten (size : Nat) : ∀ (n : Nat) (cs : List AV), cs.length = n * size → (chunks size n cs).flatten = cs ∧ ∀ e ∈ chunks size n cs, e.length = size
  | 0, cs, h => by simp at h; subst h; exact ⟨rfl, fun e he => by cases he⟩
  | n + 1, cs, h => by
    obtain ⟨h1, h2⟩ := chunks_flatten size n (cs.drop size) (by simp [h, Nat.add_mul])
    refine ⟨by simp [chunks, h1], fun e he => ?_⟩
    rcases List.mem_cons.1 he with rfl | he
    · simp [h, Nat.add_mul]
    · exact h2 e he
theorem chunks_length (size : Nat) : ∀ (n : Nat) (cs : List AV), (chunks size n cs).length = n
 | 0, _ => rfl
 | n + 1, cs => by simp [chunks, chunks_length size n]
def forceLL {β : Type} : List (List AV) → (List (List AV) → β) → β
 | [], k => k []
 | x :: xs, k => forceL x fun x' => forceLL xs fun xs' => k (x' :: xs')
theorem forceLL_eq {β : Type} : ∀ (l : List (List AV)) (k : List (List AV) → β), forceLL l k = k l
 | [], k => rfl
 | x :: xs, k => by rw [forceLL, forceL_eq, forceLL_eq xs]
def litSlice (P : Program) (t : TypeId) (n : Nat) (parts : List (Nat × AV)) : Option (Nat × List (List AV)) :=
 match elemT P t with
 | some e => match zeroA P e with
  | some z => if P.cellsOf e = z.length then (if z.length = 0 then none else if n * z.length ≤ 16777216 then
    (match fillA (fun i => some (i * z.length, z.length)) (List.replicate n z).flatten parts with
    | some cs => forceLL (chunks z.length n cs) fun es => some (z.length, es)
    | none => none) else none) else none
  | none => none
 | none => none
theorem fillA_length (place : Nat → Option (Nat × Nat)) : ∀ (ps : List (Nat × AV)) (cells out : List AV), fillA place cells ps = some out → out.length = cells.length
  | [], cells, out, h => by simp [fillA] at h; rw [h]
  | (i, v) :: ps, cells, out, h => by
    unfold fillA at h
    cases hp : place i with
    | none => rw [hp] at h; cases h
    | some os =>
      obtain ⟨off, size⟩ := os
      rw [hp] at h
      simp only at h
      split at h
      · cases h
      · rename_i hc
        rw [fillA_length place ps _ out h]
        simp only [spliceA, List.length_append, List.length_take, List.length_drop]
        simp only [not_or, Nat.not_lt] at hc
        omega
theorem zeros_eq (z : Array Value) (hz : z.size ≠ 0) : ∀ n, ((Array.range (n * z.size)).map (z[· % z.size]!)).toList = (List.replicate n z.toList).flatten := by
 intro n
 apply List.ext_getElem?
 intro k
 induction n generalizing k with
 | zero => simp
 | succ n ih =>
  rw [List.replicate_succ, List.flatten_cons, List.getElem?_append]
  by_cases hk : k < z.toList.length
  ·rw [if_pos hk]
   have hk' : k < z.size := by simpa using hk
   have : k < (n + 1) * z.size := by rw [Nat.add_mul]; omega
   simp [this, Nat.mod_eq_of_lt hk', hk']
  ·rw [if_neg hk, ← ih]
   have hk' : z.size ≤ k := by simpa using hk
   simp only [Array.toList_map, List.getElem?_map, Array.toList_range, Array.length_toList]
   by_cases hlt : k < (n + 1) * z.size
   ·have h2 : k - z.size < n * z.size := by rw [Nat.add_mul] at hlt; omega
    rw [List.getElem?_range hlt, List.getElem?_range h2]
    simp only [Option.map_some]
    rw [Nat.mod_eq_sub_mod hk']
   ·have h2 : ¬ k - z.size < n * z.size := by rw [Nat.add_mul] at hlt; omega
    simp [hlt, h2]
theorem litSlice_run {t : TypeId} {n size : Nat} {parts : Array (Nat × Operand)} {es : List (List AV)} (h : litSlice P t n (parts.toList.map fun p => (p.1, env.ev p.2)) = some (size, es)) {a : Act} {w : World} (hr : ∀ p ∈ parts.toList, VR w H.dom (env.ev p.2) (a.eval p.2)) :
    ∃ e us, P.underlying t = some (.slice e) ∧ (Instr.buildSlice t n (parts.map fun p => (p.1, a.eval p.2))).run P w = .ok (.slice (some ⟨w.heap.size, 0, none⟩) n n) (w.alloc (.cells us e)) ∧ VRs w H.dom es.flatten us.toList ∧ es.length = n ∧ (∀ e ∈ es, e.length = size) ∧ size ≠ 0 ∧ P.cellsOf e = size ∧ n * size ≤ 16777216 := by
  unfold litSlice at h
  cases ht : elemT P t with
  | none => rw [ht] at h; cases h
  | some e =>
    rw [ht] at h
    simp only at h
    have hu : P.underlying t = some (.slice e) := by
      unfold elemT at ht
      cases hq : P.underlying t with
      | none => rw [hq] at ht; cases ht
      | some d => rw [hq] at ht; cases d <;> simp_all
    cases hz : zeroA P e with
    | none => rw [hz] at h; cases h
    | some z =>
      rw [hz] at h
      simp only at h
      split at h
      case isFalse => cases h
      rename_i hsz
      split at h
      · cases h
      rename_i hz0
      split at h
      case isFalse => cases h
      rename_i hle
      cases hf : fillA (fun i => some (i * z.length, z.length)) (List.replicate n z).flatten (parts.toList.map fun p => (p.1, env.ev p.2)) with
      | none => rw [hf] at h; cases h
      | some cs =>
        rw [hf] at h
        simp only [forceLL_eq, Option.some.injEq, Prod.mk.injEq] at h
        obtain ⟨rfl, rfl⟩ := h
        unfold zeroA at hz
        cases hi : P.info? e with
        | none => rw [hi] at hz; cases hz
        | some it =>
          rw [hi] at hz
          simp only at hz
          cases hz2 : it.zero with
          | none => rw [hz2] at hz; cases hz
          | some zz =>
            rw [hz2] at hz
            simp only [Option.some.injEq] at hz
            subst hz
            simp only [List.length_map, Array.length_toList] at hsz hz0 hle hf ⊢
            have hzz : VRs w H.dom (List.replicate n (zz.cells.toList.map ofCell)).flatten ((Array.range (n * zz.cells.size)).map (zz.cells[· % zz.cells.size]!)).toList := by
              rw [zeros_eq zz.cells hz0]
              have : (List.replicate n (zz.cells.toList.map ofCell)).flatten = ((List.replicate n zz.cells.toList).flatten).map ofCell := by rw [List.map_flatten, List.map_replicate]
              rw [this]; exact VRs.map_cell _
            obtain ⟨us, hf1, hf2⟩ := fill_sound _ _ (parts.toList.map fun p => (p.1, a.eval p.2)) _ _ _ hzz hf (by simp) (fun k p q h1 h2 => by
              rw [List.getElem?_map] at h1 h2
              cases hq : parts.toList[k]? with
              | none => rw [hq] at h1; cases h1
              | some y =>
                rw [hq] at h1 h2
                simp only [Option.map_some, Option.some.injEq] at h1 h2
                subst h1; subst h2
                exact ⟨rfl, hr y (List.mem_of_getElem? hq)⟩)
            have hcl : cs.length = n * zz.cells.size := by
              rw [fillA_length _ _ _ _ hf, flatten_length (size := zz.cells.size) _ (fun q hq => by rw [List.eq_of_mem_replicate hq]; simp)]; simp
            obtain ⟨c1, c2⟩ := chunks_flatten zz.cells.size n cs hcl
            have hso := cellsOf_run (w := w) (P := P) (t := e) hsz hz0
            have hzv : (zeroValue e).run P w = .ok zz w := by simp [zeroValue, typeInfo, hi, hz2]
            refine ⟨e, us, hu, ?_, by rw [c1]; exact hf2, chunks_length _ _ _, c2, hz0, hsz, hle⟩
            simp only [Instr.buildSlice, Sem.run_bind, run_underlying hu, Result.andThen_ok, hso]
            rw [if_neg (by omega)]
            simp only [Sem.run_pure, Result.andThen_ok, Sem.run_ite, Sem.run_bind, hzv]
            by_cases hn : n * zz.cells.size = 0
            · have hn0 : n = 0 := by rcases Nat.mul_eq_zero.1 hn with h | h; exact h; exact absurd h hz0
              subst hn0
              simp only [Nat.zero_mul, if_true, Result.andThen_ok, Array.toList_map] at hf1 ⊢
              have : (Array.range 0).map (fun x => (#[] : Array Value)[x % (#[] : Array Value).size]!) = (Array.range 0).map (fun x => zz.cells[x % zz.cells.size]!) := by simp
              rw [this, hf1]
              simp [newRow]
            · rw [if_neg hn]
              simp only [Result.andThen_ok, Array.toList_map]
              rw [hf1]
              simp [newRow]
theorem uW {t : TypeId} {n size : Nat} {parts : Array (Nat × Operand)} {es : List (List AV)} (ho : o.op = .buildSlice t n parts) (h : Go.Vc.litSlice P t n (parts.toList.map fun p => (p.1, env.ev p.2)) = some (size, es)) : Exact P o env H (.rows size es) := by
 apply vQ (by simp [noDefer, ho])
 intro a w ⟨hr, hh⟩
 rw [ho] at hr
 obtain ⟨e, us, hu, hrun, h1, h2, h3, h4, h5, h6⟩ := litSlice_run (H := H) h (a := a) (w := w) (fun p hp => hr p.2 (by simp only [Op.operands, List.mem_toArray, List.mem_map]; exact ⟨p, hp, rfl⟩))
 have ev : Evol H w H (w.alloc (.cells us e)) := vY _
 refine ⟨_, .slice (some ⟨w.heap.size, 0, none⟩) es.length es.length, H, _, ?_, ev, hh.evolN ev (fun g x hx => ?_), ?_, rfl, rfl⟩
 ·unfold execOp; rw [ho]
  rw [h2]
  simp only [Sem.run_bind, hrun, Result.andThen_ok, Sem.run_pure]
 ·exact heap_alloc_old w _ (hh g x hx).lt
 ·have h1' := h1.evol ev
  refine .rows us.toList h3 h1'.1 (fun k u hk => ?_) h1'.2 (fun _ => ⟨by simp, fun ⟨x, hx, _⟩ => ?_⟩) (Nat.le_refl _)
  ·rw [addr_add, Nat.zero_add, World.cell?_alloc_new]; simpa using hk
  ·have := (hh _ x hx).lt; simp at this
theorem WpO.litSlice {t e : TypeId} {n size : Nat} {parts : Array (Nat × Operand)} {es : List (List AV)} (ho : o.op = .buildSlice t n parts) (he : elemT P t = some e) (h : Go.Vc.litSlice P t n (parts.toList.map fun p => (p.1, env.ev p.2)) = some (size, es))
  (hk : ∀ g, H g = none → K (.buf g n n) (H.set g (.row e size es n))) : WpO P o env H K E := by
 apply vQ (by simp [noDefer, ho])
 intro a w ⟨hr, hh⟩
 rw [ho] at hr
 obtain ⟨e', us, hu, hrun, h1, h2, h3, h4, h5, h6⟩ := litSlice_run (H := H) h (a := a) (w := w) (fun p hp => hr p.2 (by simp only [Op.operands, List.mem_toArray, List.mem_map]; exact ⟨p, hp, rfl⟩))
 have : e' = e := by unfold elemT at he; rw [hu] at he; simpa using he
 subst this
 have ev : Evol H w (H.set w.heap.size (.row e' size es n)) (w.alloc (.cells us e')) := Evol.alloc _ _
 refine ⟨_, .slice (some ⟨w.heap.size, 0, none⟩) n n, _, _, ?_, ev, ?_, .buf _ _ _, hk _ (hh.fresh (Nat.le_refl _))⟩
 ·unfold execOp; rw [ho]
  simp only [Sem.run_bind, hrun, Result.andThen_ok, Sem.run_pure]
 ·have hl : us.size = n * size := by
   have := h1.1; rw [flatten_length es h3, h2] at this; simpa using this
  refine hh.alloc _ _ ⟨us, heap_alloc_new w _, hl, by omega, ?_, h3, ?_⟩
  ·have : n ≤ n * size := Nat.le_mul_of_pos_right _ (by omega)
   simp only [maxLen]; omega
  ·have := h1.evol ev
   rw [List.take_of_length_le (by rw [Array.length_toList, hl, h2]; exact Nat.le_refl _)]
   exact this
theorem WpO.makeSlice {t e : TypeId} {x y : Operand} {k1 k2 : IntKind} {n : Nat} {z : List AV} (ho : o.op = .makeSlice t x y) (hx : env.ev x = .lit (.int k1 (.ofNat n))) (hy : env.ev y = .lit (.int k2 (.ofNat n))) (he : elemT P t = some e) (hz : zeroA P e = some z) (hsz : P.cellsOf e = z.length) (hz0 : z.length ≠ 0)
    (hb : P.bytesOf e * n ≤ 140737488355328) (hn : n ≤ 140737488355328) (hk : ∀ g, H g = none → K (.buf g n n) (H.set g (.row e z.length (List.replicate n z) n))) : WpO P o env H K E := by
  apply vQ (by simp [noDefer, ho])
  intro a w ⟨hr, hh⟩
  rw [ho] at hr
  have h0 := hr x (by simp [Op.operands])
  have h1 := hr y (by simp [Op.operands])
  rw [hx] at h0; rw [hy] at h1
  have e0 := h0.lit_inv; have e1 := h1.lit_inv
  have hu : P.underlying t = some (.slice e) := by
    unfold elemT at he
    cases hq : P.underlying t with
    | none => rw [hq] at he; cases he
    | some d => rw [hq] at he; cases d <;> simp_all
  unfold zeroA at hz
  cases hi : P.info? e with
  | none => rw [hi] at hz; cases hz
  | some it =>
    rw [hi] at hz
    simp only at hz
    cases hz2 : it.zero with
    | none => rw [hz2] at hz; cases hz
    | some zz =>
      rw [hz2] at hz
      simp only [Option.some.injEq] at hz
      subst hz
      have hbe : P.bytesOf e = it.bytes := by simp [Program.bytesOf, hi]
      have hce : P.cellsOf e = it.size := by simp [Program.cellsOf, hi]
      rw [hbe] at hb
      rw [hce] at hsz
      simp only [List.length_map, Array.length_toList] at hsz hz0 hk
      have hrun := run_make (P := P) (w := w) t e it zz hu hi hz2 k1 k2 (Int.ofNat n) (Int.ofNat n) (Int.natCast_nonneg _) (Int.le_refl _) (by
        show (it.bytes : Int) * (n : Int) ≤ _
        rw [← Int.natCast_mul]; omega) (by show (n : Int) ≤ _; omega)
      simp only [show (Int.ofNat n).toNat = n from rfl, hsz] at hrun
      have ev : Evol H w (H.set w.heap.size (.row e zz.cells.size (List.replicate n (zz.cells.toList.map ofCell)) n)) (w.alloc (.cells (madeCells zz.cells (n * zz.cells.size)) e)) := Evol.alloc _ _
      refine ⟨_, .slice (some ⟨w.heap.size, 0, none⟩) n n, _, _, ?_, ev, ?_, .buf _ _ _, hk _ (hh.fresh (Nat.le_refl _))⟩
      · unfold execOp; rw [ho]
        simp only [e0, e1, Sem.run_bind, hrun, Result.andThen_ok, Sem.run_pure]
      · refine hh.alloc _ _ ⟨_, heap_alloc_new w _, size_madeCells _ _, by simp, by simp only [maxLen]; omega, fun q hq => ?_, ?_⟩
        · rw [List.eq_of_mem_replicate hq]; simp
        · have e2 : (madeCells zz.cells (n * zz.cells.size)).toList = (List.replicate n zz.cells.toList).flatten := zeros_eq zz.cells hz0 n
          rw [List.take_of_length_le (by rw [Array.length_toList, size_madeCells]; simp), e2]
          have : (List.replicate n (zz.cells.toList.map ofCell)).flatten = ((List.replicate n zz.cells.toList).flatten).map ofCell := by rw [List.map_flatten, List.map_replicate]
          rw [this]; exact VRs.map_cell _
theorem WpO.makeMap {t : TypeId} (ho : o.op = .makeMap t none) (hk : ∀ g, H g = none → K (.lit (.map (some g))) (H.set g (.map []))) : WpO P o env H K E := by
  apply vQ (by simp [noDefer, ho])
  intro a w ⟨hr, hh⟩
  refine ⟨_, .map (some w.heap.size), _, w.alloc (.map #[] 0), ?_, Evol.alloc _ (.map []), hh.alloc _ _ ⟨[], 0, heap_alloc_new w _, rfl, .nil, (fun e h => by cases h), .nil⟩, .lit _, hk _ (hh.fresh (Nat.le_refl _))⟩
  unfold execOp; rw [ho]
  simp [Instr.makeMap]
end mem
inductive Src (H : Heap) (size : Nat) : AV → List (List AV) → Prop
 | rows (es : List (List AV)) : Src H size (.rows size es) es
 | buf {t : TypeId} {g n cap : Nat} {es : List (List AV)} (hg : H g = some (.row t size es cap)) (hn : n ≤ es.length) : Src H size (.buf g n cap) (es.take n)
 | nil : Src H size (.own 0 none) []
theorem Src.get {w : World} {H : Heap} {size : Nat} {x : AV} {es : List (List AV)} {u : Value} (h : Src H size x es) (hv : VR w H.dom x u) (hh : HeapR w H) :
    ∃ (A : Option Addr) (c : Nat) (us : List Value), u = .slice A es.length c ∧ VRs w H.dom es.flatten us ∧ (∀ e ∈ es, e.length = size) ∧ ((A = none ∧ es = []) ∨ ∃ a, A = some a ∧ ∀ (k : Nat) (u : Value), us[k]? = some u → w.cell? (a.add k) = some u) := by
  cases h with
  | rows es =>
    rcases hv.rows_inv with ⟨rfl, rfl⟩ | ⟨a, cap, us, rfl, g1, g2, g3, g4, g5⟩
    · exact ⟨none, 0, [], rfl, .nil, (fun e he => by cases he), .inl ⟨rfl, rfl⟩⟩
    exact ⟨some a, cap, us, rfl, g1, g4, .inr ⟨a, rfl, g2⟩⟩
  | @buf t g n cap es0 hg hn =>
    obtain rfl := hv.buf_inv
    obtain ⟨cur, h1, h2, h3, h4, h5, h6⟩ := hh g _ hg
    have hl : (es0.take n).length = n := by simp; omega
    refine ⟨some ⟨g, 0, none⟩, cap, (cur.toList.take (es0.length * size)).take (n * size), by rw [hl], ?_, fun e he => h5 e (List.mem_of_mem_take he), .inr ⟨_, rfl, fun k u hu => ?_⟩⟩
    · rw [flatten_take _ _ h5]; exact h6.take _
    · rw [addr_add, Nat.zero_add, cell_of_row w g k _ _ _ h1]
      rw [List.getElem?_take] at hu
      split at hu
      · rw [List.getElem?_take] at hu
        split at hu
        · simpa using hu
        · cases hu
      · cases hu
  | nil =>
    obtain ⟨_, rfl⟩ := hv.nil_inv
    exact ⟨none, 0, [], rfl, .nil, (fun e he => by cases he), .inl ⟨rfl, rfl⟩⟩
section app
variable {P : Program} {o : Oper} {env : Env} {H : Heap} {K : AV → Heap → Prop} {E : List PanicEntry → Heap → Prop}
structure ElemOk (P : Program) (t e : TypeId) (size bytes : Nat) : Prop where
 elem : elemT P t = some e
 info : ∃ i z, P.info? e = some i ∧ i.zero = some z ∧ i.size = size ∧ i.bytes = bytes ∧ z.cells.size = size
 pos : 0 < size
def elemOk (P : Program) (t e size bytes : Nat) : Bool :=
 match elemT P t, P.info? e with
 | some e', some i => e' == e && i.size == size && i.bytes == bytes && Nat.blt 0 size && (match i.zero with | some z => z.cells.size == size | none => false)
 | _, _ => false
theorem vV {t e size bytes : Nat} (h : elemOk P t e size bytes = true) : ElemOk P t e size bytes := by
 unfold elemOk at h
 cases h1 : elemT P t with
 | none => rw [h1] at h; simp at h
 | some e' =>
  cases h2 : P.info? e with
  | none => rw [h1, h2] at h; simp at h
  | some i =>
   rw [h1, h2] at h
   simp only [Bool.and_eq_true, beq_iff_eq] at h
   obtain ⟨⟨⟨⟨h3, h4⟩, h5⟩, h6⟩, h7⟩ := h
   subst h3
   cases h8 : i.zero with
   | none => rw [h8] at h7; simp at h7
   | some z => rw [h8] at h7; exact ⟨h1, ⟨i, z, h2, h8, h4, h5, by simpa using h7⟩, by simpa [Nat.blt_eq] using h6⟩
theorem underlying_of_elemT {t e : TypeId} (h : elemT P t = some e) : P.underlying t = some (.slice e) := by
  unfold elemT at h
  cases hq : P.underlying t with
  | none => rw [hq] at h; cases h
  | some d => rw [hq] at h; cases d <;> simp_all
theorem append_run {w : World} {t ty e : TypeId} {size bytes : Nat} (ek : ElemOk P t e size bytes) {v : Value} {n : Nat} {xs : List Value} (hown : w.ownsRow 0 e size v n xs) {u : Value} {A : Option Addr} {m c : Nat} {news : List Value} (hu : u = .slice A m c)
  (hl : news.length = m * size) (hA : (A = none ∧ m = 0) ∨ ∃ a, A = some a ∧ ∀ (k : Nat) (u : Value), news[k]? = some u → w.cell? (a.add k) = some u) (h1 : ∀ u ∈ news, u.oneCell' = true) (h63 : n + m ≤ maxLen) (hb : (n + m) * bytes ≤ 140737488355328) :
  ∃ v' w', (Builtin.append_ #[t, t] ty #[v, u]).run P w = .ok v' w' ∧ w'.ownsRow 0 e size v' (n + m) (xs ++ news) ∧ w.grownBy w' v.ownBlock ∧ (v'.ownBlock = v.ownBlock ∨ v'.ownBlock = some w.heap.size) ∧ (m ≠ 0 → v'.ownBlock ≠ none) := by
 obtain ⟨i, z, hi, hz, hsz, hby, hzs⟩ := ek.info
 have ht := underlying_of_elemT ek.elem
 subst hu
 rcases hA with ⟨rfl, rfl⟩ | ⟨a, rfl, hc⟩
 ·have hn : news = [] := List.eq_nil_of_length_eq_zero (by simpa using hl)
  subst hn
  have hrun : (Builtin.append_ #[t, t] ty #[v, .slice none 0 c]).run P w = .ok v w := by
   rcases hown.2 with ⟨rfl, rfl⟩ | ⟨g, cap, cur, rfl, _, _, hnc, _⟩
   ·simp [Builtin.append_, run_underlying ht, sizeOf, typeInfo, hi, Builtin.lenOf, Builtin.firstCells]
   ·simp [Builtin.append_, run_underlying ht, sizeOf, typeInfo, hi, Builtin.lenOf, Builtin.firstCells, hnc, storeCells]
  exact ⟨v, w, hrun, by simpa using hown, World.grownBy.refl w _, .inl rfl, fun h => (h rfl).elim⟩
 ·obtain ⟨v', w', hrun, h2, h3, h4, h5⟩ := run_append_own_at (P := P) w 0 t ty e i z size bytes ht hi hz hsz hby hzs ek.pos v n xs hown a m c news hl hc h1 h63 hb (Nat.zero_le _)
  refine ⟨v', w', hrun, h2, h3, h5, fun hm hn => ?_⟩
  rcases h2.2 with ⟨e1, e2⟩ | ⟨g, cap, cur, rfl, _⟩
  ·omega
  ·cases hn
theorem grown_evol {w w' : World} {g : Nat} {ob : AObj} {row : Option Nat} {H1 : Heap} (hg : w.grownBy w' row) (hrow : ∀ k, row = some k → H.dom k) (hd : ∀ k, H1.dom k → H.dom k ∨ w.heap.size ≤ k) : Evol H w H1 w' :=
 ⟨hg.os, hg.tape, hg.output, hg.size, fun k hk hn => hg.block k hk (fun e => hn (hrow k e.symm)), hd⟩
theorem WpO.append_nil {x y : Operand} {t e : TypeId} {size bytes : Nat} {src : AV} {es : List (List AV)} (ho : o.op = .call { callee := .builtin .append, args := #[x, y], argTypes := #[t, t] }) (ek : ElemOk P t e size bytes) (hx : env.ev x = .own 0 none) (hy : env.ev y = src) (hs : Src H size src es)
    (h1 : ∀ e ∈ es, e.all AV.one = true) (hne : es ≠ []) (h63 : es.length ≤ 140737488355328) (hb : es.length * bytes ≤ 140737488355328)
    (hk : ∀ g c, H g = none → es.length ≤ c → K (.buf g es.length c) (H.set g (.row e size es c))) : WpO P o env H K E := by
  apply vQ (by simp [noDefer, ho])
  intro a w ⟨hr, hh⟩
  rw [ho] at hr
  have e0 := hr x (by simp [Op.operands, Call.operands])
  have e1 := hr y (by simp [Op.operands, Call.operands])
  rw [hx] at e0; rw [hy] at e1
  have e0 := e0.nil_inv.2
  obtain ⟨A, c, us, e2, g1, g2, g3⟩ := hs.get e1 hh
  have hlen : us.length = es.length * size := by rw [g1.1, flatten_length es g2]
  obtain ⟨v', w', hrun, q1, q2, q3, q4⟩ := append_run (P := P) (ty := o.type) ek (World.ownsRow_nil w 0 e size) e2 hlen (g3.imp (fun ⟨p, q⟩ => ⟨p, by rw [q]; rfl⟩) id) (cells_one g1 (by
    rw [List.all_eq_true]; intro q hq
    obtain ⟨e', he', hq'⟩ := List.mem_flatten.1 hq
    exact List.all_eq_true.1 (h1 e' he') q hq')) (by simp only [maxLen]; omega) (by simpa using hb)
  have hm : es.length ≠ 0 := fun h => hne (List.eq_nil_of_length_eq_zero h)
  have q4 := q4 hm
  simp only [Nat.zero_add, List.nil_append, Value.ownBlock] at q1 q2 q3
  rcases q1.2 with ⟨r1, r2⟩ | ⟨g, cap, cur, rfl, _, r3, r4, r5, r6, r7⟩
  · exact (hm r2).elim
  simp only [Value.ownBlock, Option.some.injEq, reduceCtorEq, false_or] at q3
  subst q3
  have ev : Evol H w (H.set w.heap.size (.row e size es cap)) w' := grown_evol (g := 0) (ob := .raw default) q2 (fun k hk => by cases hk) (fun k hk => by
    obtain ⟨x, hx, ho2⟩ := hk
    by_cases hkk : k = w.heap.size
    · exact .inr (by omega)
    · rw [uS _ _ hkk] at hx; exact .inl ⟨x, hx, ho2⟩)
  refine ⟨_, _, _, w', ?_, ev, ?_, .buf _ _ _, hk _ cap (hh.fresh (Nat.le_refl _)) r4⟩
  · unfold execOp; rw [ho]
    simp only [resolve, Sem.run_bind, Sem.run_pure, Result.andThen_ok, invoke, builtin, List.map_toArray, List.map_cons, List.map_nil, e0, hrun]
  · intro k ob hob
    by_cases hkk : k = w.heap.size
    · subst hkk
      rw [uO] at hob; injection hob with hob; subst hob
      exact ⟨cur, r3, r6, r4, r5, g2, by rw [r7]; exact g1.evol ev⟩
    · rw [uS _ _ hkk] at hob
      have hlt := (hh k ob hob).lt
      exact (hh k ob hob).mono ev.size ev.hk (q2.block k hlt (by simp))
theorem WpO.append {x y : Operand} {t e : TypeId} {size bytes g n cap : Nat} {es0 : List (List AV)} {src : AV} {es : List (List AV)} (ho : o.op = .call { callee := .builtin .append, args := #[x, y], argTypes := #[t, t] }) (ek : ElemOk P t e size bytes) (hx : env.ev x = .buf g n cap) (hg : H g = some (.row e size es0 cap)) (hn : n ≤ es0.length)
    (hy : env.ev y = src) (hs : Src H size src es) (h1 : ∀ e ∈ es, e.all AV.one = true) (h63 : n + es.length ≤ 140737488355328) (hb : (n + es.length) * bytes ≤ 140737488355328)
    (hk : ∀ g' c, (g' = g ∨ H g' = none) → n + es.length ≤ c → K (.buf g' (n + es.length) c) ((H.del g).set g' (.row e size (es0.take n ++ es) c))) : WpO P o env H K E := by
  apply vQ (by simp [noDefer, ho])
  intro a w ⟨hr, hh⟩
  rw [ho] at hr
  have e0 := hr x (by simp [Op.operands, Call.operands])
  have e1 := hr y (by simp [Op.operands, Call.operands])
  rw [hx] at e0; rw [hy] at e1
  have e0 := e0.buf_inv
  obtain ⟨A, c, us, e2, g1, g2, g3⟩ := hs.get e1 hh
  obtain ⟨cur0, b1, b2, b3, b4, b5, b6⟩ := hh g _ hg
  have hlen : us.length = es.length * size := by rw [g1.1, flatten_length es g2]
  have hsz : n * size ≤ es0.length * size := Nat.mul_le_mul_right _ hn
  have hsz2 : es0.length * size ≤ cap * size := Nat.mul_le_mul_right _ b3
  have hown : w.ownsRow 0 e size (.slice (some ⟨g, 0, none⟩) n cap) n (cur0.toList.take (n * size)) :=
    ⟨by rw [List.length_take, Array.length_toList, b2]; omega, .inr ⟨g, cap, cur0, rfl, Nat.zero_le _, b1, by omega, b4, b2, rfl⟩⟩
  obtain ⟨v', w', hrun, q1, q2, q3, q4⟩ := append_run (P := P) (ty := o.type) ek hown e2 hlen (g3.imp (fun ⟨p, q⟩ => ⟨p, by rw [q]; rfl⟩) id) (cells_one g1 (by
    rw [List.all_eq_true]; intro q hq
    obtain ⟨e', he', hq'⟩ := List.mem_flatten.1 hq
    exact List.all_eq_true.1 (h1 e' he') q hq')) (by simp only [maxLen]; omega) hb
  simp only [Value.ownBlock] at q2 q3
  have hgd : H.dom g := ⟨_, hg, rfl⟩
  rcases q1.2 with ⟨r1, r2⟩ | ⟨g', cap', cur, rfl, _, r3, r4, r5, r6, r7⟩
  · subst r1
    simp only [Value.ownBlock, reduceCtorEq, or_self] at q3
  simp only [Value.ownBlock, Option.some.injEq] at q3
  have hg' : g' = g ∨ H g' = none := q3.imp id (fun h => by rw [h]; exact hh.fresh (Nat.le_refl _))
  have ev : Evol H w ((H.del g).set g' (.row e size (es0.take n ++ es) cap')) w' := grown_evol (g := 0) (ob := .raw default) q2 (fun k hk => by injection hk with hk; subst hk; exact hgd) (fun k hk => by
    obtain ⟨x, hx, ho2⟩ := hk
    by_cases hkk : k = g'
    · rcases q3 with h | h
      · exact .inl (by rw [hkk, h]; exact hgd)
      · exact .inr (by omega)
    · rw [uS _ _ hkk] at hx
      unfold Heap.del at hx
      split at hx
      · cases hx
      · exact .inl ⟨x, hx, ho2⟩)
  refine ⟨_, _, _, w', ?_, ev, ?_, .buf _ _ _, hk g' cap' hg' r4⟩
  · unfold execOp; rw [ho]
    simp only [resolve, Sem.run_bind, Sem.run_pure, Result.andThen_ok, invoke, builtin, List.map_toArray, List.map_cons, List.map_nil, e0, hrun]
  · intro k ob hob
    by_cases hkk : k = g'
    · subst hkk
      rw [uO] at hob; injection hob with hob; subst hob
      have hl : (es0.take n ++ es).length = n + es.length := by simp; omega
      refine ⟨cur, r3, r6, by rw [hl]; exact r4, r5, fun q hq => ?_, ?_⟩
      · rcases List.mem_append.1 hq with h | h
        · exact b5 q (List.mem_of_mem_take h)
        · exact g2 q h
      · rw [hl, r7, List.flatten_append, flatten_take _ _ b5]
        have h6 := (b6.take (n * size))
        have ht : ((cur0.toList.take (es0.length * size)).take (n * size)) = cur0.toList.take (n * size) := by rw [List.take_take]; congr 1; omega
        rw [ht] at h6
        exact (h6.append g1).evol ev
    · rw [uS _ _ hkk] at hob
      unfold Heap.del at hob
      split at hob
      · cases hob
      · rename_i hkg
        have hlt := (hh k ob hob).lt
        exact (hh k ob hob).mono ev.size ev.hk (q2.block k hlt (fun h => hkg (by injection h)))
def encB (b : UInt8) : List AV := [.lit (.int .u8 b.toNat)]
theorem vX {src dst e : TypeId} {x : Operand} {bs : List UInt8} {s : AV} (ho : o.op = .convert src dst x) (hs : elemT P src = some e) (he : P.underlying e = some (.int .u8)) (hd : P.underlying dst = some .string) (hx : env.ev x = s) (hsrc : Src H 1 s (bs.map encB)) :
  Exact P o env H (.lit (.string ⟨⟨bs⟩⟩)) := by
 apply vB (by simp [noDefer, ho])
 intro a w ⟨hr, hh⟩
 rw [ho] at hr
 have e0 := hr x (by simp [Op.operands])
 rw [hx] at e0
 obtain ⟨A, c, us, e2, g1, g2, g3⟩ := hsrc.get e0 hh
 have hu := underlying_of_elemT hs
 refine ⟨_, ?_, .lit _⟩
 unfold execOp; rw [ho]
 rcases g3 with ⟨rfl, h⟩ | ⟨ad, rfl, hc⟩
 ·have hb : bs = [] := by simpa using h
  subst hb
  simp only [e2]
  simp [convert, run_underlying hu, run_underlying hd, run_underlying he, Conv.bytesToString]
  rfl
 ·have hl : (bs.map encB).length = bs.length := by simp
  rw [hl] at e2
  have := run_convert_bytes_back (P := P) w src dst e ad c bs hu he hd (fun j hj => by
   have hfl : (bs.map encB).flatten = bs.map (fun b => AV.lit (.int .u8 b.toNat)) := by
    clear hsrc e0 e2 g1 g2 hc hl hj
    induction bs with
    | nil => rfl
    | cons b bs ih => simp [encB] at ih ⊢; exact ih
   rw [hfl] at g1
   obtain ⟨u, hu1, hu2⟩ := g1.at_ (k := j) (x := .lit (.int .u8 bs[j].toNat)) (by rw [List.getElem?_map, List.getElem?_eq_getElem hj]; rfl)
   have := hu2.lit_inv
   subst this
   exact hc j _ hu1)
  simp only [e2, Sem.run_bind, this, Result.andThen_ok, Sem.run_pure]
end app
def TCall (P : Program) (f : FuncId) (args : List AV) (H : Heap) (K : AV → Heap → Prop) (E : List PanicEntry → Heap → Prop) : Prop :=
 ∀ us w, VRs w H.dom args us → HeapR w H → Calls P f us.toArray w fun e w' => ∃ H', Evol H w H' w' ∧ HeapR w' H' ∧ (match e with
  | .returned u => ∃ v, VR w' H'.dom v u ∧ K v H'
  | .panicked ch => E ch H'
  | .outgrown => False)
theorem TCall.mono {P : Program} {f : FuncId} {args : List AV} {H : Heap} {K K2 : AV → Heap → Prop} {E E2 : List PanicEntry → Heap → Prop} (h : TCall P f args H K E) (hk : ∀ v H', K v H' → K2 v H') (he : ∀ c H', E c H' → E2 c H') : TCall P f args H K2 E2 :=
  fun us w hv hh => (h us w hv hh).mono fun e w' ⟨H', e1, h1, h2⟩ => ⟨H', e1, h1, by
    cases e with
    | returned u => obtain ⟨v, h3, h4⟩ := h2; exact ⟨v, h3, hk _ _ h4⟩
    | panicked ch => exact he _ _ h2
    | outgrown => exact h2⟩
def enterable (P : Program) (f : FuncId) : Bool :=
 match P.funcs[f]? with
 | some fn => !(fn.name == "runtime.NumGoroutine") && fn.body.isSome
 | none => false
theorem enterable.run {P : Program} {f : FuncId} (h : enterable P f = true) (args : Array Value) (w : World) : (callFunc f args).run P w = .ok (.enter f args) w := by
  unfold enterable at h
  cases hf : P.funcs[f]? with
  | none => rw [hf] at h; cases h
  | some fn =>
    rw [hf] at h
    simp only [Bool.and_eq_true, Bool.not_eq_true'] at h
    cases hb : fn.body with
    | none => rw [hb] at h; simp at h
    | some c =>
      have h1 : fn.name ≠ "runtime.NumGoroutine" := by simpa using h.1
      simp [callFunc, hf, h1, hb]
section call
variable {P : Program} {o : Oper} {env : Env} {H : Heap} {K : AV → Heap → Prop} {E : List PanicEntry → Heap → Prop}
theorem calls_fen {f : FuncId} {args : Array Value} {w : World} {R : Ending → World → Prop} (r : Option Nat) (n : Nat) (h : Calls P f args w R) : CallsIn (fen r) n P f args w R := by
 cases r with
 | none => exact callsIn_wide.2 h
 | some l => exact CallsIn.inRound l (callsIn_wide.2 h)
theorem TCall.wp {f : FuncId} {args : List AV} (h : TCall P f args H K E) (hn : noDefer o = true) (r : Option Nat) (n : Nat) {a : Act} {w : World} {us : List Value} (hv : VRs w H.dom args us) (hh : HeapR w H) (hrun : (execOp a.eval o).run P w = .ok (.enter f us.toArray) w) (K' : Act → World → Prop) (Q' : Exit → Act → World → Prop)
    (h1 : ∀ v v' H' w', Evol H w H' w' → HeapR w' H' → VR w' H'.dom v v' → K v H' → K' (a.put o.dst v') w') (h2 : ∀ ch H' w', Evol H w H' w' → HeapR w' H' → E ch H' → Q' (.panic ch) a w') : o.wpIn (fen r) n P a w K' Q' := by
  refine ⟨fun _ _ => trivial, ?_⟩
  rw [sem_noDefer hn, hrun]
  refine ⟨fun hh => by simp [fen, Fence.wide] at hh, ?_⟩
  refine (calls_fen r (n - 1) (h us w hv hh)).mono fun e w' ⟨H', e1, r1, r2⟩ => ?_
  cases e with
  | returned u => obtain ⟨v, r3, r4⟩ := r2; exact h1 v u H' w' e1 r1 r3 r4
  | panicked ch => exact h2 ch H' w' e1 r1 r2
  | outgrown => exact r2.elim
theorem evs_VRs {a : Act} {w : World} {l : List Operand} (hr : ∀ x ∈ l, VR w H.dom (env.ev x) (a.eval x)) : VRs w H.dom (l.map env.ev) (l.map a.eval) :=
  ⟨by simp, fun k x u hx hu => by
    rw [List.getElem?_map] at hx hu
    cases hq : l[k]? with
    | none => rw [hq] at hx; cases hx
    | some y =>
      rw [hq] at hx hu
      simp only [Option.map_some, Option.some.injEq] at hx hu
      subst hx; subst hu
      exact hr y (List.mem_of_getElem? hq)⟩
theorem WpO.call {f : FuncId} {args : Array Operand} {ts : Array TypeId} {xs : List AV} (ho : o.op = .call { callee := .value (.func f), args := args, argTypes := ts }) (he : enterable P f = true) (hx : forceL (args.toList.map env.ev) some = some xs) (h : TCall P f xs H K E) : WpO P o env H K E := by
 rw [forceL_eq] at hx
 injection hx with hx; subst hx
 intro r n a w ⟨hr, hh⟩ K' Q' h1 h2
 rw [ho] at hr
 refine h.wp (by simp [noDefer, ho]) r n (us := args.toList.map a.eval) (evs_VRs fun x hx => hr x (by simp [Op.operands, Call.operands]; exact .inr (by simpa using hx))) hh ?_ K' Q' h1 h2
 rw [Conc.execOp_call_func ho, enterable.run he]
 congr 2
 apply Array.ext'; rw [Array.toList_map]
theorem WpO.call_clo {x : Operand} {f : FuncId} {first cap : List AV} {args : Array Operand} {ts : Array TypeId} {xs : List AV} (ho : o.op = .call { callee := .value x, args := args, argTypes := ts }) (hf : env.ev x = .clo (.func f) first cap) (he : enterable P f = true) (hx : forceL (first ++ args.toList.map env.ev ++ cap) some = some xs) (h : TCall P f xs H K E) : WpO P o env H K E := by
 rw [forceL_eq] at hx
 injection hx with hx; subst hx
 intro r n a w ⟨hr, hh⟩ K' Q' h1 h2
 rw [ho] at hr
 have e0 := hr x (by simp [Op.operands, Call.operands])
 rw [hf] at e0
 obtain ⟨us, vs, e1, g1, g2⟩ := e0.clo_inv
 refine h.wp (by simp [noDefer, ho]) r n (us := us ++ args.toList.map a.eval ++ vs) ((g1.append (evs_VRs fun y hy => hr y (by simp [Op.operands, Call.operands]; exact .inr (by simpa using hy)))).append g2) hh ?_ K' Q' h1 h2
 unfold execOp
 rw [ho]
 simp only [resolve, e1, Deferred.ofValue, Sem.run_bind, Sem.run_pure, Result.andThen_ok, invoke, enterable.run he]
 congr 2
 apply Array.ext'; simp
def Env.args (args : List AV) : Env := fun t => args.getD t (.lit undef)
inductive ResV (P : Program) (env : Env) (H : Heap) : List ResultVar → List AV → Prop
 | nil : ResV P env H [] []
 | tmp {t : Tmp} {rs : List ResultVar} {vs : List AV} {v : AV} (hv : env t = v) (h : ResV P env H rs vs) : ResV P env H (.tmp t :: rs) (v :: vs)
 | cell {p : Tmp} {t : TypeId} {g off : Nat} {ob : AObj} {cs : List AV} {rs : List ResultVar} {vs : List AV} {v : AV} (hp : env p = .lit (.pointer (some ⟨g, off, none⟩))) (hg : H g = some ob) (hf : ob.flat = some cs) (hl : ldv P t (cs.drop off) = some v) (h : ResV P env H rs vs) : ResV P env H (.cell p t :: rs) (v :: vs)
def resOf : List AV → AV
 | [v] => v
 | vs => .tup vs
def resF (a : Act) : ResultVar → Sem Value
 | .tmp t => pure (a.tmps.getD t undef)
 | .cell p t => do loadVar t (← asAddr (a.tmps.getD p undef))
theorem results_eq (fn : Func) (a : Act) : results fn a.tmps = (fn.results.mapM (resF a) >>= fun vs => pure (if h : vs.size = 1 then vs[0] else .tuple vs)) := by
 unfold results
 congr 1
theorem resV_run {fr : Fr} {N : Nat} {a : Act} {w : World} (r : Rel fr N env H a w) : ∀ (rs : List ResultVar) (vs : List AV), ResV P env H rs vs → ∃ us, (rs.mapM (resF a)).run P w = .ok us w ∧ VRs w H.dom vs us := by
 intro rs vs h
 induction h with
 | nil => exact ⟨[], rfl, .nil⟩
 | @tmp t rs vs v hv h ih =>
  obtain ⟨us, h1, h2⟩ := ih
  refine ⟨a.tmps.getD t undef :: us, ?_, .cons (hv ▸ r.vals t) h2⟩
  rw [List.mapM_cons]
  simp only [resF, Sem.run_bind, Sem.run_pure, Result.andThen_ok]
  simp only [h1, Result.andThen_ok]
 | @cell p t g off ob cs rs vs v hp hg hf hl h ih =>
  obtain ⟨us, h1, h2⟩ := ih
  have e0 := r.vals p
  rw [hp] at e0
  have e0 := e0.lit_inv
  obtain ⟨us0, k2, k3⟩ := (r.heap g ob hg).flat hf
  obtain ⟨v', k5, k6⟩ := ldv_sound (a := ⟨g, off, none⟩) (k2.drop off) (fun k u hu => by rw [addr_add]; exact k3 _ u (by simpa using hu)) hl
  refine ⟨v' :: us, ?_, .cons k6 h2⟩
  rw [List.mapM_cons]
  simp only [resF, Sem.run_bind, Sem.run_pure, Result.andThen_ok, e0, asAddr, k5]
  simp only [h1, Result.andThen_ok]
theorem results_run {fr : Fr} {N : Nat} {a : Act} {w : World} {fn : Func} {vs : List AV} (r : Rel fr N env H a w) (h : ResV P env H fn.results.toList vs) : ∃ u, (results fn a.tmps).run P w = .ok u w ∧ VR w H.dom (resOf vs) u := by
 obtain ⟨us, h1, h2⟩ := resV_run (P := P) r _ _ h
 have hm : (fn.results.mapM (resF a)).run P w = .ok us.toArray w := by
  rw [Array.mapM_eq_mapM_toList]
  simp only [Sem.run_map]
  rw [h1]; rfl
 by_cases hl : us.length = 1
 ·obtain ⟨u, rfl⟩ := List.length_eq_one_iff.1 hl
  have hvl : vs.length = 1 := by rw [← h2.1]; rfl
  obtain ⟨v, rfl⟩ := List.length_eq_one_iff.1 hvl
  refine ⟨u, ?_, ?_⟩
  ·rw [results_eq]
   simp only [Sem.run_bind, hm, Result.andThen_ok, Sem.run_pure]
   rfl
  ·obtain ⟨_, _, e, h3, _⟩ := h2.cons_inv
   injection e with e1 e2
   subst e1; exact h3
 ·refine ⟨.tuple us.toArray, ?_, ?_⟩
  ·rw [results_eq]
   simp only [Sem.run_bind, hm, Result.andThen_ok, Sem.run_pure]
   rw [dif_neg (by simpa using hl)]
  ·have : resOf vs = .tup vs := by
    match vs, h2 with
    | [], _ => rfl
    | [v], h2 => exact (hl h2.1).elim
    | _ :: _ :: _, _ => rfl
   rw [this]
   exact .tup _ h2.1 h2.2
def VEnds {P : Program} (fn : Func) (K : AV → Heap → Prop) (E : List PanicEntry → Heap → Prop) : QC
 | .normal, env, H | .ret, env, H => ∃ vs, ResV P env H fn.results.toList vs ∧ K (resOf vs) H
 | .panic ch, _, H => E ch H
 | _, _, _ => False
theorem leaves_marks {fn : Func} {R : Ending → World → Prop} {fr : Fr} {N : Nat} {env : Env} {H : Heap} {n : Nat} {u : FrameMode} (hu : u ≠ .run) {H0 : Heap} {w0 : World} (hb : fr.base = w0.heap.size)
    (fin : ∀ a w, a.defers = fr.tail → Evol H0 w0 H w → Rel fr N env H a w → LeavesInM Fence.wide n P fn a.tmps R fr.tail u w) : ∀ (ds : List Deferred) (a : Act) (w : World), a.defers = ds ++ fr.tail → (∀ d ∈ ds, Mark fr.base w H d) → ds.Pairwise (fun d e => d.target ≠ e.target) → Evol H0 w0 H w → Rel fr N env H a w → LeavesInM Fence.wide n P fn a.tmps R (ds ++ fr.tail) u w
  | [], a, w, hd, _, _, ev, r => fin a w hd ev r
  | d :: ds, a, w, hdd, hms, hp, ev, r => by
    obtain ⟨D, rfl, h2, h3, h4⟩ := hms d (by simp)
    refine ⟨hu, .inl ⟨D, _, rfl, run_takeDeferred h3, ?_⟩⟩
    have hst : Stays w H.dom (w.putObj D (.deferred none)) H.dom := ⟨by simp, fun g hg hn => by
      by_cases e : g = D
      · subst e; exact .inl ⟨_, h3, rfl⟩
      · exact .inr ⟨World.putObj_heap_other e, hn⟩⟩
    have ev' : Evol H0 w0 H (w.putObj D (.deferred none)) := ⟨ev.os, ev.tape, ev.output, by simpa using ev.size, fun g hg hn => by
      have hne : g ≠ D := by omega
      exact (World.putObj_heap_other hne).trans (ev.keep g hg hn), ev.dom⟩
    have hp' := List.pairwise_cons.1 hp
    have hms' : ∀ e ∈ ds, Mark fr.base (w.putObj D (.deferred none)) H e := fun e he => by
      obtain ⟨D2, rfl, g2, g3, g4⟩ := hms e (by simp [he])
      have hne : D2 ≠ D := fun e2 => hp'.1 _ he (by subst e2; rfl)
      exact ⟨D2, rfl, g2, (World.putObj_heap_other hne).trans g3, g4⟩
    have r' : Rel fr N env H { a with defers := ds ++ fr.tail } (w.putObj D (.deferred none)) := by
      refine ⟨r.size, fun t => (r.vals t).stays hst, fun g o hg => ?_, by simpa using r.base, ⟨r.marks.1, ds, rfl, hms', hp'.2⟩, fun l hl => ?_, fun hq => ?_⟩
      · have hne : g ≠ D := fun e => by subst e; rw [r.heap.absent h4 ⟨_, h3, rfl⟩] at hg; cases hg
        exact (r.heap g o hg).stays hst (World.putObj_heap_other hne)
      · obtain ⟨k1, rec, k2⟩ := r.round l hl
        have hne : l ≠ D := fun e => by subst e; rw [h3] at k2; cases k2
        exact ⟨k1, rec, (World.putObj_heap_other hne).trans k2⟩
      · have h9 := r.quiet hq
        rw [hdd] at h9
        have h10 := congrArg List.length h9
        simp only [List.length_append, List.length_cons] at h10
        omega
    exact leaves_marks hu hb fin ds { a with defers := ds ++ fr.tail } _ rfl hms' hp'.2 ev' r'
theorem leaves_marks' {fn : Func} {R : Ending → World → Prop} {fr : Fr} {N : Nat} {env : Env} {H : Heap} {n : Nat} {u : FrameMode} (hu : u ≠ .run) {H0 : Heap} {w0 : World} (hb : fr.base = w0.heap.size)
  (fin : ∀ a w, a.defers = fr.tail → Evol H0 w0 H w → Rel fr N env H a w → LeavesInM Fence.wide n P fn a.tmps R fr.tail u w) (a : Act) (w : World) (ev : Evol H0 w0 H w) (r : Rel fr N env H a w) : LeavesInM Fence.wide n P fn a.tmps R a.defers u w := by
 obtain ⟨_, ms, h1, h2, h3⟩ := r.marks
 rw [h1]
 exact leaves_marks hu hb fin ms a w h1 h2 h3 ev r
theorem TCall.body {f : FuncId} {fn : Func} {c : Code} {args : List AV} (hf : P.funcs[f]? = some fn) (hb : fn.body = some c) (hn : Nat.ble args.length fn.ntmps = true) (h : WpC P fn.ntmps c (Env.args args) H (VEnds (P := P) fn K E)) : TCall P f args H K E := by
  intro us w hv hh
  refine (callsIn_wide (n := 0)).1 (callsIn_of_wp_marks hf hb trivial ?_)
  have hrel : Rel ⟨none, w.heap.size, []⟩ fn.ntmps (Env.args args) H { tmps := us.toArray ++ Array.replicate (fn.ntmps - us.toArray.size) undef, defers := [] } w := by
    have hn := Nat.le_of_ble_eq_true hn
    refine ⟨by simp [hv.1]; omega, fun t => ?_, hh, Nat.le_refl _, ⟨fun d hd => by simp at hd, [], rfl, fun d hd => by simp at hd, .nil⟩, (fun l hl => by cases hl), fun _ => rfl⟩
    simp only [Env.args, Array.getD_eq_getD_getElem?, List.getD_eq_getElem?_getD, Array.getElem?_append, List.size_toArray, List.getElem?_toArray]
    by_cases ht : t < us.length
    · rw [if_pos ht]
      have ht' : t < args.length := by rw [← hv.1]; exact ht
      rw [List.getElem?_eq_getElem ht, List.getElem?_eq_getElem ht']
      exact hv.2 t _ _ (List.getElem?_eq_getElem ht') (List.getElem?_eq_getElem ht)
    · rw [if_neg ht, List.getElem?_eq_none (l := args) (by rw [← hv.1]; omega)]
      have : (Array.replicate (fn.ntmps - us.length) undef)[t - us.length]?.getD undef = undef := by
        rw [Array.getElem?_replicate]; split <;> rfl
      rw [this]
      exact .lit _
  refine wpIn_mono (h ⟨none, w.heap.size, []⟩ 0 _ w hrel) ?_
  rintro e a' w' ⟨env', H', ev, r, q⟩
  cases e with
  | normal =>
    refine leaves_marks' (fr := ⟨none, w.heap.size, []⟩) (by simp) rfl (fun a2 w2 _ ev2 r2 => ?_) a' w' ev r
    obtain ⟨vs, h1, h2⟩ := q
    obtain ⟨u, h3, h4⟩ := results_run (P := P) r2 h1
    exact ⟨u, h3, H', ev2, r2.heap, _, h4, h2⟩
  | ret =>
    refine leaves_marks' (fr := ⟨none, w.heap.size, []⟩) (by simp) rfl (fun a2 w2 _ ev2 r2 => ?_) a' w' ev r
    obtain ⟨vs, h1, h2⟩ := q
    obtain ⟨u, h3, h4⟩ := results_run (P := P) r2 h1
    exact ⟨u, h3, H', ev2, r2.heap, _, h4, h2⟩
  | panic ch =>
    refine leaves_marks' (fr := ⟨none, w.heap.size, []⟩) (by simp) rfl (fun a2 w2 _ ev2 r2 => ?_) a' w' ev r
    exact ⟨H', ev2, r2.heap, q⟩
  | exit id => exact q.elim
  | goto l => exact q.elim
  | outgrown => exact q.elim
def Up (H : Heap) (v : AV) (H' : Heap) (u : AV) : Prop := H'.le H ∧ ∀ w x, HeapR w H → VR w H.dom v x → VR w H'.dom u x
theorem Up.refl (H : Heap) (v : AV) : Up H v H v := ⟨uD H, fun _ _ _ h => h⟩
theorem Up.drop {H H' : Heap} (h : H'.le H) (v : AV) : Up H v H' v := ⟨h, fun w x _ hx => hx.evol (Evol.drop w h)⟩
theorem Up.rows {H H' : Heap} {g n c size : Nat} {t : TypeId} {es : List (List AV)} (h : H'.le H) (hg : H g = some (.row t size es c)) (hg' : H' g = none) (hn : n = es.length) : Up H (.buf g n c) H' (.rows size es) := by
  subst hn
  refine ⟨h, fun w x hh hx => ?_⟩
  obtain rfl := hx.buf_inv
  obtain ⟨cur, h1, h2, h3, h4, h5, h6⟩ := hh g _ hg
  have h6' := h6.evol (Evol.drop w h)
  refine .rows _ h5 h6'.1 (fun k u hu => ?_) h6'.2 (fun _ => ⟨(Array.getElem?_eq_some_iff.1 h1).1, fun ⟨x, hx, _⟩ => by rw [hg'] at hx; cases hx⟩) h3
  rw [addr_add, Nat.zero_add, cell_of_row w g k _ _ _ h1]
  rw [List.getElem?_take] at hu
  split at hu
  · simpa using hu
  · cases hu
theorem TCall.up {f : FuncId} {args : List AV} (h : TCall P f args H (fun v H' => ∃ u H'', Up H' v H'' u ∧ K u H'') E) : TCall P f args H K E :=
 fun us w hv hh => (h us w hv hh).mono fun e w' ⟨H', e1, r1, r2⟩ => by
  cases e with
  | returned u =>
   obtain ⟨v, r3, x, H'', up, r4⟩ := r2
   exact ⟨H'', e1.trans (Evol.drop w' up.1), r1.drop up.1, x, up.2 w' u r1 r3, r4⟩
  | panicked ch => exact ⟨H', e1, r1, r2⟩
  | outgrown => exact r2.elim
theorem WpC.up {N : Nat} {c : Code} {Q : QC} {H' : Heap} {t : Tmp} {u : AV} (up : Up H (env t) H' u) (h : WpC P N c (env.put (some t) u) H' Q) : WpC P N c env H Q :=
 WpC.conv (fun fr a w r => ⟨Evol.drop w up.1, r.size, fun k => by
  by_cases hk : k = t
  ·subst hk; simp only [Env.put, if_true]; exact up.2 w _ r.heap (r.vals k)
  ·simp only [Env.put, hk, if_false]; exact (r.vals k).evol (Evol.drop w up.1), r.heap.drop up.1, r.base, r.marks.evol (Evol.drop w up.1), r.round.evol (Evol.drop w up.1), r.quiet⟩) h
end call
end Go.Vc
