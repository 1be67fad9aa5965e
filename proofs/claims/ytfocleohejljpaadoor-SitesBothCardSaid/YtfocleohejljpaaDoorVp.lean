/-
  The operations that only reckon: what each yields, by a function that Lean reckons ('pev'), and that it is so.
-/
import Derived.Test.YtfocleohejljpaaDoorVc
set_option linter.unusedVariables false
set_option linter.unusedSimpArgs false
namespace Go.Vc
open Go

def inR : IntKind → Int → Prop
  | .i64, r => -9223372036854775808 ≤ r ∧ r ≤ 9223372036854775807
  | .i32, r => -2147483648 ≤ r ∧ r ≤ 2147483647
  | .i16, r => -32768 ≤ r ∧ r ≤ 32767
  | .i8, r => -128 ≤ r ∧ r ≤ 127
  | .u64, r => 0 ≤ r ∧ r ≤ 18446744073709551615
  | .u32, r => 0 ≤ r ∧ r ≤ 4294967295
  | .u16, r => 0 ≤ r ∧ r ≤ 65535
  | .u8, r => 0 ≤ r ∧ r ≤ 255
theorem inR.wrap {k : IntKind} {r : Int} (h : inR k r) : k.wrap r = r := by
  cases k <;> simp only [inR] at h <;> simp only [IntKind.wrap, IntKind.bits, IntKind.signed] <;> simp <;> omega

def fldOf (P : Program) (s f : Nat) : Option (Nat × Nat) :=
  match P.underlying s with
  | some (.struct fs) => (match fs[f]? with | some x => some (x.offset, x.type) | none => none)
  | _ => none
def aggT (P : Program) (t : TypeId) : Bool :=
  match P.underlying t with
  | some (.struct _) | some (.array _ _) => true
  | _ => false
def elemT (P : Program) (t : TypeId) : Option TypeId :=
  match P.underlying t with
  | some (.slice e) => some e
  | _ => none

/-- the value at a head, the list written out -/
def forceA {β : Type} (x : AV) (k : AV → β) : β :=
  match x with
  | .lit v => k (.lit v)
  | .rows s es => k (.rows s es)
  | .own n p => k (.own n p)
  | .agg cs => k (.agg cs)
  | .tup cs => k (.tup cs)
  | .rop cs => k (.rop cs)
  | .clo f a b => k (.clo f a b)
  | .ifc t x => k (.ifc t x)
def forceL {β : Type} : List AV → (List AV → β) → β
  | [], k => k []
  | x :: xs, k => forceA x fun x' => forceL xs fun xs' => k (x' :: xs')
theorem forceA_eq {β : Type} (x : AV) (k : AV → β) : forceA x k = k x := by cases x <;> rfl
theorem forceL_eq {β : Type} : ∀ (l : List AV) (k : List AV → β), forceL l k = k l
  | [], k => rfl
  | x :: xs, k => by rw [forceL, forceA_eq, forceL_eq xs]

/-- the cells of a value -/
def cellsA : AV → List AV
  | .agg cs => cs
  | .lit v => v.cells.toList.map .lit
  | v => [v]
def spliceA (xs : List AV) (off : Nat) (vs : List AV) : List AV := xs.take off ++ vs ++ xs.drop (off + vs.length)
def fillA (place : Nat → Option (Nat × Nat)) (cells : List AV) : List (Nat × AV) → Option (List AV)
  | [] => some cells
  | (i, v) :: rest => match place i with
    | none => none
    | some (off, size) => if (cellsA v).length ≠ size ∨ off + (cellsA v).length > cells.length then none else fillA place (spliceA cells off (cellsA v)) rest
def placesOf (P : Program) (t : TypeId) : Option (Nat → Option (Nat × Nat)) :=
  match P.info? t, P.underlying t with
  | some _, some (.array _ e) => (match P.info? e with | some ie => some (fun i => some (i * ie.size, ie.size)) | none => none)
  | some _, some (.struct fields) => (match fields.toList.mapM (fun f => (P.info? f.type).map fun i => (f.offset, i.size)) with | some places => some (places.toArray[·]?) | none => none)
  | _, _ => none
def zeroA (P : Program) (t : TypeId) : Option (List AV) :=
  match P.info? t with
  | some it => (match it.zero with | some z => some (z.cells.toList.map ofCell) | none => none)
  | none => none

def conj : List Prop → Prop
  | [] => True
  | [p] => p
  | p :: ps => p ∧ conj ps

def bin (op : BinOp) (x y : AV) : Option (AV × List Prop) :=
  match x, y with
  | .lit (.int k a), .lit (.int k' b) =>
    if k = k' then
      (match op with
      | .add => some (.lit (.int k (a + b)), [inR k (a + b)])
      | .sub => some (.lit (.int k (a - b)), [inR k (a - b)])
      | .mul => some (.lit (.int k (a * b)), [inR k (a * b)])
      | .quo => some (.lit (.int k (a.tdiv b)), [b ≠ 0 ∧ inR k (a.tdiv b)])
      | .rem => some (.lit (.int k (a.tmod b)), [b ≠ 0])
      | .and => some (.lit (.int k (k.wrap (BitVec.ofInt k.bits a &&& BitVec.ofInt k.bits b).toNat)), [])
      | .or => some (.lit (.int k (k.wrap (BitVec.ofInt k.bits a ||| BitVec.ofInt k.bits b).toNat)), [])
      | .xor => some (.lit (.int k (k.wrap (BitVec.ofInt k.bits a ^^^ BitVec.ofInt k.bits b).toNat)), [])
      | .shl => some (.lit (.int k (k.wrap (a * 2 ^ (min b.toNat k.bits)))), [0 ≤ b])
      | .shr => some (.lit (.int k (a.fdiv (2 ^ (min b.toNat k.bits)))), [0 ≤ b])
      | .eql => some (.lit (.bool (decide (a = b))), [])
      | .neq => some (.lit (.bool (!decide (a = b))), [])
      | .lss => some (.lit (.bool (decide (a < b))), [])
      | .leq => some (.lit (.bool (decide (a ≤ b))), [])
      | .gtr => some (.lit (.bool (decide (b < a))), [])
      | .geq => some (.lit (.bool (decide (b ≤ a))), [])
      | _ => none)
    else none
  | .lit (.string ⟨⟨a⟩⟩), .lit (.string ⟨⟨b⟩⟩) =>
    (match op with
    | .add => some (.lit (.string ⟨⟨a ++ b⟩⟩), [a.length + b.length ≤ 9223372036854775807])
    | .eql => some (.lit (.bool (decide (a = b))), [])
    | .neq => some (.lit (.bool (!decide (a = b))), [])
    | .lss => some (.lit (.bool (Op.bytesLess a b)), [])
    | _ => none)
  | _, _ => none
/-- '==' and '!=' of bools; of a pointer, a map, a slice against nil -/
def eqv (P : Program) (t : TypeId) (x y : AV) : Option Bool :=
  match P.underlying t, x, y with
  | some .bool, .lit (.bool a), .lit (.bool b) => some (a == b)
  | some (.pointer _), .lit (.pointer a), .lit (.pointer none) => some a.isNone
  | some (.slice _), .rows _ (_ :: _), .own _ none => some false
  | some (.slice _), .own _ p, .own _ none => some p.isNone
  | some (.map _ _), .lit (.map a), .lit (.map none) => some a.isNone
  | _, _, _ => none
def lenA (P : Program) (t : TypeId) (x : AV) : Option Nat :=
  match P.underlying t, x with
  | some .string, .lit (.string ⟨⟨l⟩⟩) => some l.length
  | some (.slice _), .rows _ es => some es.length
  | some (.slice _), .own n _ => some n
  | some (.slice _), .lit (.slice _ n _) => some n
  | some (.array n _), _ => some n
  | some (.map _ _), .lit (.map none) => some 0
  | _, _ => none

def natOf : Option AV → Option (Option Nat)
  | none => some none
  | some (.lit (.int _ n)) => some (some n.toNat)
  | _ => none
def nnOf : Option AV → Prop
  | some (.lit (.int _ n)) => 0 ≤ n
  | _ => True
def cutL {α : Type} (lo hi : Option Nat) (l : List α) : List α :=
  match lo, hi with
  | none, none => l
  | some a, none => l.drop a
  | none, some b => l.take b
  | some a, some b => (l.drop a).take (b - a)
def cutOk (lo hi : Option Nat) (n : Nat) : Prop :=
  match lo, hi with
  | none, none => True
  | some a, none => a ≤ n
  | none, some b => b ≤ n
  | some a, some b => a ≤ b ∧ b ≤ n
def cutOk3 (hi mx : Option Nat) (n : Nat) : Prop :=
  match hi, mx with
  | _, none => True
  | some b, some m => b ≤ m ∧ m ≤ n
  | none, some _ => False
def sliceA (P : Program) (t : TypeId) (x : AV) (lo0 hi0 mx0 : Option AV) : Option (AV × List Prop) :=
  match natOf lo0, natOf hi0, natOf mx0, P.underlying t, x with
  | some lo, some hi, some none, some .string, .lit (.string ⟨⟨l⟩⟩) => some (.lit (.string ⟨⟨cutL lo hi l⟩⟩), [nnOf lo0 ∧ nnOf hi0 ∧ cutOk lo hi l.length])
  | some lo, some hi, some mx, some (.slice e), .rows sz es => if P.cellsOf e = sz then (if sz = 0 then none else some (.rows sz (cutL lo hi es), [nnOf lo0 ∧ nnOf hi0 ∧ nnOf mx0 ∧ cutOk lo hi es.length ∧ cutOk3 hi mx es.length])) else none
  | _, _, _, _, _ => none

def pev (P : Program) (op : Op) (env : Env) : Option (AV × List Prop) :=
  match op with
  | .move x | .assign x => forceA (env.ev x) fun v => some (v, [])
  | .pick c a b => match env.ev c with
    | .lit (.bool true) => forceA (env.ev a) fun v => some (v, [])
    | .lit (.bool false) => forceA (env.ev b) fun v => some (v, [])
    | _ => none
  | .nilCheck x => match env.ev x with
    | .lit (.pointer (some a)) => some (.lit (.pointer (some a)), [])
    | .rop cs => some (.rop cs, [])
    | .clo (.func f) a b => some (.clo (.func f) a b, [])
    | .clo (.yield f) a b => some (.clo (.yield f) a b, [])
    | _ => none
  | .unOp .not _ x => match env.ev x with
    | .lit (.bool b) => some (.lit (.bool (!b)), [])
    | _ => none
  | .unOp .neg _ x => match env.ev x with
    | .lit (.int k a) => some (.lit (.int k (0 - a)), [inR k (0 - a)])
    | _ => none
  | .binOp op t x y _ => match bin op (env.ev x) (env.ev y) with
    | some r => some r
    | none => match op, eqv P t (env.ev x) (env.ev y) with
      | .eql, some b => some (.lit (.bool b), [])
      | .neq, some b => some (.lit (.bool (!b)), [])
      | _, _ => none
  | .convert src dst x => match P.underlying src, P.underlying dst, env.ev x with
    | some (.int _), some (.int k), .lit (.int _ n) => some (.lit (.int k n), [inR k n])
    | some .string, some .string, .lit (.string s) => some (.lit (.string s), [])
    | _, _, _ => none
  | .fieldAddr s x f => match fldOf P s f with
    | some (off, ty) => if P.cellsOf ty = 0 then none else match env.ev x with
      | .rop cs => forceL (cs.drop off) fun cs' => some (.rop cs', [])
      | .lit (.pointer (some ⟨g, o, none⟩)) => some (.lit (.pointer (some ⟨g, o + off, none⟩)), [])
      | _ => none
    | none => none
  | .field s x f => match fldOf P s f, env.ev x with
    | some (off, ty), .agg cs => if aggT P ty then (forceL ((cs.drop off).take (P.cellsOf ty)) fun cs' => some (.agg cs', [])) else (match P.underlying ty, cs[off]? with | some _, some v => forceA v fun v => some (v, []) | _, _ => none)
    | _, _ => none
  | .extract t i => match env.ev t with
    | .tup vs => (match vs[i]? with | some v => forceA v fun v => some (v, []) | none => none)
    | _ => none
  | .makeInterface t x => match P.underlying t with
    | some (.interface _) => none
    | some _ => some (.ifc t (env.ev x), [])
    | none => none
  | .makeFunc f first captured => forceL (first.toList.map env.ev) fun a => forceL (captured.toList.map env.ev) fun b => some (.clo f a b, [])
  | .call { callee := .builtin .len, args := args, argTypes := ts } => match args.toList, ts.toList with
    | [x], [t] => (match lenA P t (env.ev x) with | some n => some (.lit (.int .i64 n), []) | none => none)
    | _, _ => none
  | .call { callee := .builtin .min, args := args, argTypes := _ } => match args.toList with
    | [x, y] => (match env.ev x, env.ev y with
      | .lit (.int k a), .lit (.int _ b) => some (.lit (.int k (if b < a then b else a)), [])
      | _, _ => none)
    | _ => none
  | .call { callee := .builtin .max, args := args, argTypes := _ } => match args.toList with
    | [x, y] => (match env.ev x, env.ev y with
      | .lit (.int k a), .lit (.int _ b) => some (.lit (.int k (if a < b then b else a)), [])
      | _, _ => none)
    | _ => none
  | .index t x i => match P.underlying t, env.ev x, env.ev i with
    | some .string, .lit (.string ⟨⟨l⟩⟩), .lit (.int _ n) => some (.lit (.int .u8 (l.getD n.toNat 0).toNat), [0 ≤ n ∧ n.toNat < l.length])
    | _, _, _ => none
  | .build t parts => match zeroA P t, placesOf P t with
    | some z, some pl => (match fillA pl z (parts.toList.map fun p => (p.1, env.ev p.2)) with
      | some cs => forceL cs fun cs' => some (.agg cs', [])
      | none => none)
    | _, _ => none
  | .slice t x lo hi mx => sliceA P t (env.ev x) (lo.map env.ev) (hi.map env.ev) (mx.map env.ev)
  | _ => none

section
variable {P : Program} {w : World} {D : Nat → Prop}

theorem run_underlying_of {t : TypeId} {d : TypeDesc} (h : P.underlying t = some d) (w : World) : (underlying t).run P w = .ok d w := run_underlying h w

theorem eqGuard_noop {op : BinOp} {t : TypeId} {x y : Operand} {a b : Value} (h1 : ∀ cs, a ≠ .agg cs) (h2 : a ≠ .nilIface) : (eqGuard op t x y a b).run P w = .ok () w := by
  unfold eqGuard
  cases op <;> simp
  all_goals
    split
    · exact (h2 rfl).elim
    · exact (h1 _ rfl).elim
    · rfl

theorem bin_sound {op : BinOp} {t : TypeId} {x y : AV} {v : AV} {c : List Prop} (h : bin op x y = some (v, c)) (hc : conj c) {u u' : Value} (hx : VR w D x u) (hy : VR w D y u') :
    ∃ r, (binOp op t u u').run P w = .ok r w ∧ VR w D v r ∧ ∀ xo yo, (eqGuard op t xo yo u u').run P w = .ok () w := by
  unfold bin at h
  split at h
  case h_3 => cases h
  case h_2 =>
    rename_i a b
    obtain rfl := hx.lit_inv
    obtain rfl := hy.lit_inv
    have hg : ∀ xo yo, (eqGuard op t xo yo (.string ⟨⟨a⟩⟩) (.string ⟨⟨b⟩⟩)).run P w = .ok () w := fun xo yo => eqGuard_noop (by intro cs; simp) (by simp)
    have ea : (ByteArray.mk ⟨a⟩).toList = a := by rw [ByteArray.toList_eq]
    have eb : (ByteArray.mk ⟨b⟩).toList = b := by rw [ByteArray.toList_eq]
    cases op <;> simp only [Option.some.injEq, Prod.mk.injEq, reduceCtorEq] at h <;> obtain ⟨rfl, rfl⟩ := h <;> simp only [conj] at hc
    case add =>
      refine ⟨_, by rw [binOp_string_add]; exact run_string_add_sum w _ _ hc, ?_, hg⟩
      have := ByteArray.mk_append_mk a b
      rw [this]; exact .lit _
    case eql => exact ⟨_, by rw [binOp_string_eql, ea, eb]; rfl, by rw [show (a == b) = decide (a = b) from by rw [Bool.eq_iff_iff]; simp]; exact .lit _, hg⟩
    case neq => exact ⟨_, by rw [binOp_string_neq, ea, eb]; rfl, by rw [show (a == b) = decide (a = b) from by rw [Bool.eq_iff_iff]; simp]; exact .lit _, hg⟩
    case lss => exact ⟨_, by rw [binOp_string_lss, ea, eb]; rfl, .lit _, hg⟩
  rename_i k a k' b
  obtain rfl := hx.lit_inv
  obtain rfl := hy.lit_inv
  have hg : ∀ xo yo, (eqGuard op t xo yo (.int k a) (.int k' b)).run P w = .ok () w := fun xo yo => eqGuard_noop (by intro cs; simp) (by simp)
  split at h
  case isFalse => cases h
  rename_i hk
  subst hk
  cases op <;> simp only [Option.some.injEq, Prod.mk.injEq, reduceCtorEq] at h <;> obtain ⟨rfl, rfl⟩ := h <;> simp only [conj] at hc
  case add => exact ⟨_, by simp [binOp, Op.intArith]; rfl, by rw [hc.wrap]; exact .lit _, hg⟩
  case sub => exact ⟨_, by simp [binOp, Op.intArith]; rfl, by rw [hc.wrap]; exact .lit _, hg⟩
  case mul => exact ⟨_, by simp [binOp, Op.intArith]; rfl, by rw [hc.wrap]; exact .lit _, hg⟩
  case quo => exact ⟨_, by simp [binOp, Op.intDiv, hc.1]; rfl, by rw [hc.2.wrap]; exact .lit _, hg⟩
  case rem => exact ⟨_, by simp [binOp, Op.intDiv, hc], .lit _, hg⟩
  case and => exact ⟨_, by simp only [binOp, Op.intBits]; simp, .lit _, hg⟩
  case or => exact ⟨_, by simp only [binOp, Op.intBits]; simp, .lit _, hg⟩
  case xor => exact ⟨_, by simp only [binOp, Op.intBits]; simp, .lit _, hg⟩
  case shl => exact ⟨_, by simp only [binOp, Op.shift]; rw [if_neg (by omega)]; rfl, .lit _, hg⟩
  case shr => exact ⟨_, by simp only [binOp, Op.shift]; rw [if_neg (by omega)]; rfl, .lit _, hg⟩
  case eql => exact ⟨_, by simp [binOp, Op.intCmp]; rfl, .lit _, hg⟩
  case neq => exact ⟨_, by simp [binOp, Op.intCmp, bne]; rfl, .lit _, hg⟩
  case lss => exact ⟨_, by simp [binOp, Op.intCmp], .lit _, hg⟩
  case leq => exact ⟨_, by simp [binOp, Op.intCmp], .lit _, hg⟩
  case gtr => exact ⟨_, by simp [binOp, Op.intCmp], .lit _, hg⟩
  case geq => exact ⟨_, by simp [binOp, Op.intCmp], .lit _, hg⟩

theorem eqv_run {t : TypeId} {u u' : Value} {b : Bool} (h : ∀ d : Nat, (Op.equalIn (d + 1) t u u').run P w = .ok b w) (hb : ∀ op, op = .eql ∨ op = .neq → binOp op t u u' = (match op with | .eql => (do pure (.bool (← Op.equal t u u'))) | _ => (do pure (.bool (!(← Op.equal t u u')))))) :
    (binOp .eql t u u').run P w = .ok (.bool b) w ∧ (binOp .neq t u u').run P w = .ok (.bool (!b)) w := by
  have h1 : (Op.equal t u u').run P w = .ok b w := h 9999
  rw [hb .eql (.inl rfl), hb .neq (.inr rfl)]
  simp [h1]
theorem eqv_sound {t : TypeId} {x y : AV} {b : Bool} (h : eqv P t x y = some b) {u u' : Value} (hx : VR w D x u) (hy : VR w D y u') :
    ((binOp .eql t u u').run P w = .ok (.bool b) w ∧ (binOp .neq t u u').run P w = .ok (.bool (!b)) w) ∧ ∀ op xo yo, (eqGuard op t xo yo u u').run P w = .ok () w := by
  unfold eqv at h
  split at h <;> simp only [Option.some.injEq, reduceCtorEq] at h <;> subst h
  · rename_i a b hu
    obtain rfl := hx.lit_inv; obtain rfl := hy.lit_inv
    exact ⟨eqv_run (fun d => by simp [Op.equalIn, run_underlying hu]) (by rintro op (rfl | rfl) <;> rfl), fun _ _ _ => eqGuard_noop (by intro cs; simp) (by simp)⟩
  · rename_i a hu
    obtain rfl := hx.lit_inv; obtain rfl := hy.lit_inv
    exact ⟨eqv_run (fun d => by cases a <;> simp [Op.equalIn, run_underlying hu]) (by rintro op (rfl | rfl) <;> cases a <;> rfl), fun _ _ _ => eqGuard_noop (by intro cs; simp) (by simp)⟩
  · rename_i hu
    rcases hx.rows_inv with ⟨h, _⟩ | ⟨a, cap, us, rfl, _⟩
    · cases h
    obtain ⟨_, rfl⟩ := hy.nil_inv
    exact ⟨eqv_run (fun d => by simp [Op.equalIn, run_underlying hu]) (by rintro op (rfl | rfl) <;> rfl), fun _ _ _ => eqGuard_noop (by intro cs; simp) (by simp)⟩
  · rename_i hu
    obtain ⟨_, rfl⟩ := hy.nil_inv
    rcases hx.own_inv with ⟨rfl, _, rfl⟩ | ⟨g, c, rfl, rfl⟩
    · exact ⟨eqv_run (fun d => by simp [Op.equalIn, run_underlying hu]) (by rintro op (rfl | rfl) <;> rfl), fun _ _ _ => eqGuard_noop (by intro cs; simp) (by simp)⟩
    · exact ⟨eqv_run (fun d => by simp [Op.equalIn, run_underlying hu]) (by rintro op (rfl | rfl) <;> rfl), fun _ _ _ => eqGuard_noop (by intro cs; simp) (by simp)⟩
  · rename_i a hu
    obtain rfl := hx.lit_inv; obtain rfl := hy.lit_inv
    exact ⟨eqv_run (fun d => by cases a <;> simp [Op.equalIn, run_underlying hu]) (by rintro op (rfl | rfl) <;> cases a <;> rfl), fun _ _ _ => eqGuard_noop (by intro cs; simp) (by simp)⟩

theorem lenA_sound {t ty : TypeId} {x : AV} {n : Nat} (h : lenA P t x = some n) {u : Value} (hx : VR w D x u) : (Builtin.len_ #[t] ty #[u]).run P w = .ok (.int .i64 n) w := by
  unfold lenA at h
  split at h <;> simp only [Option.some.injEq, reduceCtorEq] at h <;> subst h
  · rename_i s hu; obtain rfl := hx.lit_inv; simp [Builtin.len_, run_underlying hu, goInt]; rfl
  · rename_i hu
    rcases hx.rows_inv with ⟨rfl, rfl⟩ | ⟨a, cap, us, rfl, _⟩
    · simp [Builtin.len_, run_underlying hu, goInt]
    · simp [Builtin.len_, run_underlying hu, goInt]
  · rename_i hu
    rcases hx.own_inv with ⟨rfl, rfl, rfl⟩ | ⟨g, c, rfl, rfl⟩
    · simp [Builtin.len_, run_underlying hu, goInt]
    · simp [Builtin.len_, run_underlying hu, goInt]
  · rename_i hu; obtain rfl := hx.lit_inv; simp [Builtin.len_, run_underlying hu, goInt]
  · rename_i _ hu; simp [Builtin.len_, run_underlying hu, goInt]
  · rename_i hu; obtain rfl := hx.lit_inv; simp [Builtin.len_, run_underlying hu, goInt]

theorem fldOf_spec {s f off ty : Nat} (h : fldOf P s f = some (off, ty)) : ∃ fs x, P.underlying s = some (.struct fs) ∧ fs[f]? = some x ∧ x.offset = off ∧ x.type = ty := by
  unfold fldOf at h
  split at h
  · rename_i fs hu
    cases hx : fs[f]? with
    | none => rw [hx] at h; cases h
    | some x => rw [hx] at h; simp at h; exact ⟨fs, x, hu, hx, h.1, h.2⟩
  · cases h

theorem cellsOf_run {t : TypeId} {n : Nat} (h : P.cellsOf t = n) (hn : n ≠ 0) : (sizeOf t).run P w = .ok n w := by
  unfold Program.cellsOf at h
  cases hi : P.info? t with
  | none => rw [hi] at h; simp at h; exact (hn h.symm).elim
  | some i => rw [hi] at h; simp at h; simp [sizeOf, typeInfo, hi, h]

theorem addr_add (g o n : Nat) : (⟨g, o, none⟩ : Addr).add n = ⟨g, o + n, none⟩ := by
  unfold Addr.add
  split
  · rename_i h; subst h; simp
  · rfl
end


theorem VR.cells {w : World} {D : Nat → Prop} {x : AV} {u : Value} (h : VR w D x u) : VRs w D (cellsA x) u.cells.toList := by
  cases h with
  | lit v => exact VRs.map_lit _
  | agg us hl hv => exact ⟨hl, hv⟩
  | rows us hs hl hc hv hb hcap => exact VRs.cons (.rows us hs hl hc hv hb hcap) .nil
  | rows0 => exact VRs.cons .rows0 .nil
  | buf g n c => exact VRs.cons (.buf g n c) .nil
  | own0 => exact VRs.cons .own0 .nil
  | tup us hl hv => exact VRs.cons (.tup us hl hv) .nil
  | rop us hl hc hv hb => exact VRs.cons (.rop us hl hc hv hb) .nil
  | clo us vs a b c d => exact VRs.cons (.clo us vs a b c d) .nil
  | ifc h => exact VRs.cons (.ifc h) .nil

theorem foldl_splice (off : Nat) : ∀ (vs : List Value) (k : Nat) (cs : Array Value), off + k + vs.length ≤ cs.size →
    ((vs.zipIdx k).foldl (fun cs (p : Value × Nat) => cs.setIfInBounds (off + p.2) p.1) cs).toList = cs.toList.take (off + k) ++ vs ++ cs.toList.drop (off + k + vs.length)
  | [], k, cs, h => by simp
  | v :: vs, k, cs, h => by
    simp only [List.length_cons] at h
    rw [List.zipIdx_cons, List.foldl_cons, foldl_splice off vs (k + 1) _ (by simp; omega)]
    apply List.ext_getElem?
    intro i
    simp only [Array.toList_setIfInBounds, List.getElem?_append, List.getElem?_take, List.getElem?_drop, List.length_append, List.length_take, List.length_set, Array.length_toList, List.getElem?_set, List.length_cons, List.getElem?_cons]
    have h1 : min (off + (k + 1)) cs.size = off + k + 1 := by omega
    have h2 : min (off + k) cs.size = off + k := by omega
    simp only [h1, h2]
    by_cases c1 : i < off + k
    · have a1 : i < off + k + 1 + vs.length := by omega
      have a2 : i < off + k + 1 := by omega
      have a3 : i < off + (k + 1) := by omega
      have a4 : off + k ≠ i := by omega
      have a5 : i < off + k + (vs.length + 1) := by omega
      simp [c1, a1, a2, a3, a4, a5]
    · by_cases c2 : i = off + k
      · subst c2
        have a1 : off + k < off + k + 1 + vs.length := by omega
        have a5 : off + k < off + k + (vs.length + 1) := by omega
        have a6 : off + k < cs.size := by omega
        simp [a1, a5, a6]
      · have a2 : ¬ i < off + k + 1 := by omega
        by_cases c3 : i < off + k + 1 + vs.length
        · have a5 : i < off + k + (vs.length + 1) := by omega
          have a6 : i - (off + k) ≠ 0 := by omega
          simp only [c1, a2, c3, a5, a6, if_true, if_false]
          congr 1
        · have a5 : ¬ i < off + k + (vs.length + 1) := by omega
          simp only [c1, a2, c3, a5, if_false]
          have a7 : off + (k + 1) + vs.length + (i - (off + k + 1 + vs.length)) = i := by omega
          have a8 : off + k + (vs.length + 1) + (i - (off + k + (vs.length + 1))) = i := by omega
          rw [a7, a8, if_neg (by omega)]

theorem VRs.splice {w : World} {D : Nat → Prop} {xs vs : List AV} {us ws : List Value} (h : VRs w D xs us) (k : VRs w D vs ws) (off : Nat) : VRs w D (spliceA xs off vs) (us.take off ++ ws ++ us.drop (off + ws.length)) := by
  unfold spliceA
  rw [← k.1]
  exact ((h.take off).append k).append (h.drop _)

theorem fill_sound {w : World} {D : Nat → Prop} (place : Nat → Option (Nat × Nat)) : ∀ (ps : List (Nat × AV)) (qs : List (Nat × Value)) (cells : List AV) (us : Array Value) (out : List AV), VRs w D cells us.toList → fillA place cells ps = some out →
    qs.length = ps.length → (∀ (k : Nat) p q, ps[k]? = some p → qs[k]? = some q → p.1 = q.1 ∧ VR w D p.2 q.2) → ∃ us', Instr.fill place us qs = some us' ∧ VRs w D out us'.toList
  | [], qs, cells, us, out, hv, hf, hl, hp => by
    have : qs = [] := List.eq_nil_of_length_eq_zero (by simpa using hl)
    subst this
    simp only [fillA, Option.some.injEq] at hf; subst hf
    exact ⟨us, rfl, hv⟩
  | (i, v) :: ps, qs, cells, us, out, hv, hf, hl, hp => by
    cases qs with
    | nil => simp at hl
    | cons q qs =>
      obtain ⟨j, u⟩ := q
      obtain ⟨e1, e2⟩ := hp 0 _ _ rfl rfl
      simp only at e1 e2
      subst e1
      have hc := e2.cells
      unfold fillA at hf
      unfold Instr.fill
      cases hpl : place i with
      | none => rw [hpl] at hf; cases hf
      | some os =>
        obtain ⟨off, size⟩ := os
        rw [hpl] at hf
        simp only at hf ⊢
        have hlen : (cellsA v).length = u.cells.size := by rw [← hc.1]; simp
        have hlen2 : cells.length = us.size := by rw [← hv.1]; simp
        rw [hlen, hlen2] at hf
        split at hf
        · cases hf
        · rename_i hcond
          rw [if_neg (by simpa using hcond)]
          have hsz : off + u.cells.size ≤ us.size := by
            simp only [not_or, Nat.not_lt] at hcond; omega
          refine fill_sound place ps qs _ _ out ?_ hf (by simpa using hl) (fun k p q h1 h2 => hp (k + 1) p q (by simpa using h1) (by simpa using h2))
          have hz : u.cells.zipIdx.foldl (fun cs (x : Value × Nat) => cs.setIfInBounds (off + x.2) x.1) us = ((u.cells.toList.zipIdx 0).foldl (fun cs (p : Value × Nat) => cs.setIfInBounds (off + p.2) p.1) us) := by
            rw [← Array.foldl_toList]; simp
          have := foldl_splice off u.cells.toList 0 us (by simpa using hsz)
          simp only [Nat.add_zero] at this
          show VRs w D _ (Array.foldl _ us u.cells.zipIdx).toList
          rw [show (Array.foldl (fun cs (x : Value × Nat) => match x with | (c, j) => cs.setIfInBounds (off + j) c) us u.cells.zipIdx) = u.cells.zipIdx.foldl (fun cs (x : Value × Nat) => cs.setIfInBounds (off + x.2) x.1) us from rfl, hz, this]
          exact hv.splice hc off

theorem flatten_drop {α : Type} {size : Nat} : ∀ (es : List (List α)) (a : Nat), (∀ e ∈ es, e.length = size) → (es.drop a).flatten = es.flatten.drop (a * size)
  | [], a, h => by simp
  | e :: es, 0, h => by simp
  | e :: es, a + 1, h => by
    have he := h e (by simp)
    rw [List.drop_succ_cons, flatten_drop es a (fun x hx => h x (by simp [hx])), List.flatten_cons, List.drop_append]
    rw [show e.drop ((a + 1) * size) = [] from List.drop_eq_nil_of_le (by rw [he, Nat.add_mul]; omega), List.nil_append, he, Nat.add_mul]
    congr 1; omega
theorem flatten_take {α : Type} {size : Nat} : ∀ (es : List (List α)) (a : Nat), (∀ e ∈ es, e.length = size) → (es.take a).flatten = es.flatten.take (a * size)
  | [], a, h => by simp
  | e :: es, 0, h => by simp
  | e :: es, a + 1, h => by
    have he := h e (by simp)
    rw [List.take_succ_cons, List.flatten_cons, flatten_take es a (fun x hx => h x (by simp [hx])), List.flatten_cons, List.take_append]
    rw [List.take_of_length_le (l := e) (by rw [he, Nat.add_mul]; omega), he, Nat.add_mul]
    congr 2; omega
theorem flatten_length {α : Type} {size : Nat} : ∀ (es : List (List α)), (∀ e ∈ es, e.length = size) → es.flatten.length = es.length * size
  | [], h => by simp
  | e :: es, h => by
    rw [List.flatten_cons, List.length_append, flatten_length es (fun x hx => h x (by simp [hx])), h e (by simp), List.length_cons, Nat.add_mul]; omega

def loOf (lo : Option Nat) : Nat := lo.getD 0
def hiOf (hi : Option Nat) (n : Nat) : Nat := hi.getD n
theorem cutL_eq {α : Type} (lo hi : Option Nat) (l : List α) : cutL lo hi l = (l.drop (loOf lo)).take (hiOf hi l.length - loOf lo) := by
  cases lo <;> cases hi <;> simp [cutL, loOf, hiOf]
  rw [List.take_of_length_le (by simp)]
theorem cutOk_eq {lo hi : Option Nat} {n : Nat} (h : cutOk lo hi n) : loOf lo ≤ hiOf hi n ∧ hiOf hi n ≤ n := by
  cases lo <;> cases hi <;> simp_all [cutOk, loOf, hiOf]

theorem natOf_spec {w : World} {D : Nat → Prop} {x : Option AV} {u : Option Value} {n : Option Nat} (h : natOf x = some n) (hnn : nnOf x) (hx : x.isSome = u.isSome) (hv : ∀ a b, x = some a → u = some b → VR w D a b) :
    (n = none ∧ u = none) ∨ ∃ k v, n = some k ∧ u = some (.int v (Int.ofNat k)) := by
  unfold natOf at h
  split at h
  · injection h with h; cases u with
    | none => exact .inl ⟨h.symm, rfl⟩
    | some b => simp at hx
  · rename_i k k'
    injection h with h
    cases u with
    | none => simp at hx
    | some b => have := (hv _ _ rfl rfl).lit_inv; exact .inr ⟨k'.toNat, k, h.symm, by rw [this]; simp only [nnOf] at hnn; congr 2; show k' = ((k'.toNat : Nat) : Int); omega⟩
  · cases h

theorem sliceBounds_run {P : Program} {w : World} {isS : Bool} {len cap : Nat} {lo hi mx : Option Nat} {ul uh um : Option Value}
    (h1 : (lo = none ∧ ul = none) ∨ ∃ k v, lo = some k ∧ ul = some (.int v (Int.ofNat k))) (h2 : (hi = none ∧ uh = none) ∨ ∃ k v, hi = some k ∧ uh = some (.int v (Int.ofNat k)))
    (h3 : (mx = none ∧ um = none) ∨ ∃ k v, mx = some k ∧ um = some (.int v (Int.ofNat k))) (hlen : len ≤ cap) (ok : cutOk lo hi len) (ok3 : cutOk3 hi mx len) :
    (Instr.sliceBounds isS len cap ul uh um).run P w = .ok (loOf lo, hiOf hi len, mx.getD cap) w := by
  have hb : ∀ (v : IntKind) (k y : Nat) (c : BoundsCode), k ≤ y → (Instr.sliceBound (.int v (Int.ofNat k)) y c).run P w = .ok k w := fun v k y c h => by
    have c1 : (0 : Int) ≤ Int.ofNat k ∧ Int.ofNat k ≤ (y : Int) := ⟨Int.natCast_nonneg _, by show (k : Int) ≤ y; omega⟩
    simp only [Instr.sliceBound, Sem.run_bind, asIntOf, Sem.run_pure, Result.andThen_ok, Sem.run_ite]
    rw [if_pos c1]; rfl
  obtain ⟨k1, k2⟩ := cutOk_eq ok
  rcases h3 with ⟨rfl, rfl⟩ | ⟨m, vm, rfl, rfl⟩
  · rcases h2 with ⟨rfl, rfl⟩ | ⟨h, vh, rfl, rfl⟩ <;> rcases h1 with ⟨rfl, rfl⟩ | ⟨l, vl, rfl, rfl⟩ <;> simp only [loOf, hiOf, Option.getD_none, Option.getD_some] at k1 k2 ⊢ <;>
      simp only [Instr.sliceBounds, Sem.run_bind, Sem.run_pure, Result.andThen_ok]
    · rw [hb vl l len _ k1]; rfl
    · rw [hb vh h cap _ (by omega)]; rfl
    · rw [hb vh h cap _ (by omega)]; simp only [Result.andThen_ok]; rw [hb vl l h _ k1]; rfl
  · rcases h2 with ⟨rfl, rfl⟩ | ⟨h, vh, rfl, rfl⟩
    · exact ok3.elim
    · simp only [cutOk3] at ok3
      rcases h1 with ⟨rfl, rfl⟩ | ⟨l, vl, rfl, rfl⟩ <;> simp only [loOf, hiOf, Option.getD_none, Option.getD_some] at k1 k2 ⊢ <;>
        simp only [Instr.sliceBounds, Sem.run_bind, Sem.run_pure, Result.andThen_ok]
      · rw [hb vm m cap _ (by omega)]; simp only [Result.andThen_ok]; rw [hb vh h m _ ok3.1]; rfl
      · rw [hb vm m cap _ (by omega)]; simp only [Result.andThen_ok]; rw [hb vh h m _ ok3.1]; simp only [Result.andThen_ok]; rw [hb vl l h _ k1]; rfl

theorem sliceA_sound {P : Program} {w : World} {D : Nat → Prop} {t : TypeId} {x : AV} {lo hi mx : Option AV} {v : AV} {c : List Prop} (h : sliceA P t x lo hi mx = some (v, c)) (hc : conj c) {u : Value} {ul uh um : Option Value} (hx : VR w D x u)
    (i1 : lo.isSome = ul.isSome) (r1 : ∀ a b, lo = some a → ul = some b → VR w D a b) (i2 : hi.isSome = uh.isSome) (r2 : ∀ a b, hi = some a → uh = some b → VR w D a b) (i3 : mx.isSome = um.isSome) (r3 : ∀ a b, mx = some a → um = some b → VR w D a b) :
    ∃ v', (Instr.sliceAt t u ul uh um).run P w = .ok v' w ∧ VR w D v v' := by
  unfold sliceA at h
  split at h
  · rename_i lo' hi' l n1 n2 n3 hu
    simp only [Option.some.injEq, Prod.mk.injEq] at h; obtain ⟨rfl, rfl⟩ := h; simp only [conj] at hc
    obtain rfl := hx.lit_inv
    have e3 : um = none := by
      cases mx with
      | none => cases um with
        | none => rfl
        | some b => simp at i3
      | some a => unfold natOf at n3; split at n3 <;> simp_all
    subst e3
    have hb := sliceBounds_run (P := P) (w := w) (isS := false) (natOf_spec n1 hc.1 i1 r1) (natOf_spec n2 hc.2.1 i2 r2) (.inl ⟨rfl, rfl⟩) (Nat.le_refl _) hc.2.2 trivial
    refine ⟨.string ⟨⟨cutL lo' hi' l⟩⟩, ?_, .lit _⟩
    have hsz : (ByteArray.mk ⟨l⟩).size = l.length := rfl
    simp only [Instr.sliceAt, Instr.slice, Sem.run_bind, run_underlying hu, Result.andThen_ok, Option.isSome_none, Bool.false_eq_true, if_false, hsz, hb, Sem.run_pure]
    rw [cutL_eq]
    have he := ByteArray.extract_mk l (loOf lo') (hiOf hi' l.length)
    rw [show (ByteArray.mk ⟨l⟩).extract (loOf lo') (hiOf hi' l.length) = _ from he]
  · rename_i lo' hi' mx' e sz es n1 n2 n3 hu
    split at h
    case isFalse => cases h
    rename_i hsz
    split at h
    case isTrue => cases h
    rename_i hz
    simp only [Option.some.injEq, Prod.mk.injEq] at h; obtain ⟨rfl, rfl⟩ := h; simp only [conj] at hc
    obtain ⟨nn1, nn2, nn3, hc⟩ := hc
    rcases hx.rows_inv with ⟨rfl, rfl⟩ | ⟨a, cap, us, rfl, g1, g2, g3, g4, g5⟩
    · have hb := sliceBounds_run (P := P) (w := w) (isS := true) (len := 0) (cap := 0) (natOf_spec n1 nn1 i1 r1) (natOf_spec n2 nn2 i2 r2) (natOf_spec n3 nn3 i3 r3) (Nat.le_refl _) hc.1 hc.2
      obtain ⟨k1, k2⟩ := cutOk_eq hc.1
      have hso := cellsOf_run (w := w) (P := P) (t := e) hsz hz
      have hn : cutL lo' hi' ([] : List (List AV)) = [] := by rw [cutL_eq]; simp
      rw [hn]
      simp only [List.length_nil] at k1 k2
      have z1 : hiOf hi' 0 = 0 := by omega
      have z2 : loOf lo' = 0 := by omega
      have z3 : mx'.getD 0 = 0 := by
        cases mx' with
        | none => rfl
        | some m =>
          have := hc.2
          cases hi' with
          | none => exact this.elim
          | some b => simp only [cutOk3, List.length_nil] at this; simp only [Option.getD_some]; omega
      refine ⟨.slice none 0 0, ?_, .rows0⟩
      simp only [Instr.sliceAt, Instr.slice, Sem.run_bind, run_underlying hu, Result.andThen_ok, List.length_nil] at hb ⊢
      rw [hb]
      simp only [Result.andThen_ok, hso, Sem.run_pure, z1, z2, z3]
      rfl
    have hb := sliceBounds_run (P := P) (w := w) (isS := true) (natOf_spec n1 nn1 i1 r1) (natOf_spec n2 nn2 i2 r2) (natOf_spec n3 nn3 i3 r3) g5 hc.1 hc.2
    obtain ⟨k1, k2⟩ := cutOk_eq hc.1
    have hso := cellsOf_run (w := w) (P := P) (t := e) hsz hz
    refine ⟨.slice (if mx'.getD cap = loOf lo' then some a else (some a).map (·.add (loOf lo' * sz))) (hiOf hi' es.length - loOf lo') (mx'.getD cap - loOf lo'), ?_, ?_⟩
    · simp only [Instr.sliceAt, Instr.slice, Sem.run_bind, run_underlying hu, Result.andThen_ok, hb, hso, Sem.run_pure]
    · have hn : (cutL lo' hi' es).length = hiOf hi' es.length - loOf lo' := by rw [cutL_eq]; simp; omega
      rw [← hn]
      have hm : mx'.getD cap ≥ hiOf hi' es.length := by
        cases mx' with
        | none => simp; omega
        | some m =>
          have := hc.2
          cases hi' with
          | none => exact this.elim
          | some b => simp only [cutOk3] at this; simp only [Option.getD_some, hiOf]; omega
      have hfl : (cutL lo' hi' es).flatten = (es.flatten.drop (loOf lo' * sz)).take ((hiOf hi' es.length - loOf lo') * sz) := by
        rw [cutL_eq, flatten_take _ _ (fun e he => g4 e (List.mem_of_mem_drop he)), flatten_drop _ _ g4]
      have hv2 := (g1.drop (loOf lo' * sz)).take ((hiOf hi' es.length - loOf lo') * sz)
      have hcell : ∀ (k : Nat) (u : Value), ((us.drop (loOf lo' * sz)).take ((hiOf hi' es.length - loOf lo') * sz))[k]? = some u → w.cell? ((a.add (loOf lo' * sz)).add k) = some u := fun k u hk => by
        rw [add_add]
        rw [List.getElem?_take] at hk
        split at hk
        · exact g2 _ u (by simpa using hk)
        · cases hk
      have hmem : ∀ e ∈ cutL lo' hi' es, e.length = sz := fun e he => by
        rw [cutL_eq] at he; exact g4 e (List.mem_of_mem_drop (List.mem_of_mem_take he))
      by_cases hml : mx'.getD cap = loOf lo'
      · have h0 : hiOf hi' es.length - loOf lo' = 0 := by omega
        simp only [hml, if_true]
        refine .rows [] hmem ?_ (fun k u hk => by simp at hk) (fun k x u _ hk => by simp at hk) (fun h => (h rfl).elim) (by omega)
        rw [hfl, h0]; simp
      · simp only [hml, if_false]
        refine .rows _ hmem (by rw [hfl]; exact hv2.1) hcell (fun k x u h1 h2 => hv2.2 k x u (by rw [← hfl]; exact h1) h2) (fun hne => ?_) (by omega)
        rw [block_of_add']
        exact g3 (by rintro rfl; simp at hne)
  · cases h

theorem pev_sound {P : Program} {o : Oper} {env : Env} {v : AV} {c : List Prop} (h : pev P o.op env = some (v, c)) (hc : conj c) (H : Heap) : Exact P o env H v := by
  apply Exact.of_run (by
    cases hop : o.op with
    | defer c => rw [hop] at h; simp [pev] at h
    | _ => simp [noDefer, hop])
  intro a w ⟨hr, hh⟩
  unfold pev at h
  unfold execOp
  split at h
  · -- move
    rename_i x hop
    simp only [forceA_eq, Option.some.injEq, Prod.mk.injEq] at h; obtain ⟨rfl, rfl⟩ := h; try simp only [conj] at hc
    rw [hop] at hr ⊢
    exact ⟨_, rfl, hr x (by simp [Op.operands])⟩
  · rename_i x hop
    simp only [forceA_eq, Option.some.injEq, Prod.mk.injEq] at h; obtain ⟨rfl, rfl⟩ := h; try simp only [conj] at hc
    rw [hop] at hr ⊢
    exact ⟨_, rfl, hr x (by simp [Op.operands])⟩
  · -- pick
    rename_i cc x y hop
    rw [hop] at hr ⊢
    have h0 := hr cc (by simp [Op.operands])
    split at h <;> simp only [forceA_eq, Option.some.injEq, Prod.mk.injEq, reduceCtorEq] at h <;> obtain ⟨rfl, rfl⟩ := h <;> try simp only [conj] at hc
    · rename_i he
      rw [he] at h0
      have h1 := h0.lit_inv
      refine ⟨_, by simp [h1, asBool], hr x (by simp [Op.operands])⟩
    · rename_i he
      rw [he] at h0
      have h1 := h0.lit_inv
      refine ⟨_, by simp [h1, asBool], hr y (by simp [Op.operands])⟩
  · -- nilCheck
    rename_i x hop
    rw [hop] at hr ⊢
    have h0 := hr x (by simp [Op.operands])
    split at h <;> simp only [forceA_eq, Option.some.injEq, Prod.mk.injEq, reduceCtorEq] at h <;> obtain ⟨rfl, rfl⟩ := h <;> try simp only [conj] at hc
    · rename_i he; rw [he] at h0; have h1 := h0.lit_inv
      exact ⟨_, by simp only [h1]; rfl, VR.lit _⟩
    · rename_i he; rw [he] at h0
      obtain ⟨ad, us, h1, h2, h3, h4⟩ := h0.rop_inv
      exact ⟨_, by simp only [h1]; rfl, VR.rop us h2.1 h3 h2.2 h4⟩
    · rename_i he; rw [he] at h0
      obtain ⟨us, vs, h1, h2, h3⟩ := h0.clo_inv
      exact ⟨_, by simp only [h1]; rfl, VR.clo us vs h2.1 h2.2 h3.1 h3.2⟩
    · rename_i he; rw [he] at h0
      obtain ⟨us, vs, h1, h2, h3⟩ := h0.clo_inv
      exact ⟨_, by simp only [h1]; rfl, VR.clo us vs h2.1 h2.2 h3.1 h3.2⟩
  · -- not
    rename_i t x hop
    rw [hop] at hr ⊢
    have h0 := hr x (by simp [Op.operands])
    split at h <;> simp only [forceA_eq, Option.some.injEq, Prod.mk.injEq, reduceCtorEq] at h <;> obtain ⟨rfl, rfl⟩ := h <;> try simp only [conj] at hc
    rename_i he; rw [he] at h0; have h1 := h0.lit_inv
    exact ⟨_, by simp [h1, Op.unary], VR.lit _⟩
  · -- neg
    rename_i t x hop
    rw [hop] at hr ⊢
    have h0 := hr x (by simp [Op.operands])
    split at h <;> simp only [forceA_eq, Option.some.injEq, Prod.mk.injEq, reduceCtorEq] at h <;> obtain ⟨rfl, rfl⟩ := h <;> try simp only [conj] at hc
    rename_i k q he; rw [he] at h0; have h1 := h0.lit_inv
    refine ⟨_, by simp only [h1, Op.unary, Op.intArith]; simp; rfl, ?_⟩
    have := inR.wrap hc
    simp only [Int.zero_sub] at this ⊢
    rw [this]; exact .lit _
  · -- binOp
    rename_i op t x y ty hop
    rw [hop] at hr ⊢
    have hx := hr x (by simp [Op.operands])
    have hy := hr y (by simp [Op.operands])
    cases hb : bin op (env.ev x) (env.ev y) with
    | some r =>
      rw [hb] at h; simp only [Option.some.injEq] at h; subst h
      obtain ⟨r, h1, h2, h3⟩ := bin_sound (P := P) (t := t) hb hc hx hy
      exact ⟨r, by simp [h3, h1], h2⟩
    | none =>
      rw [hb] at h
      simp only at h
      split at h <;> simp only [forceA_eq, Option.some.injEq, Prod.mk.injEq, reduceCtorEq] at h <;> obtain ⟨rfl, rfl⟩ := h <;> try simp only [conj] at hc
      · rename_i b he
        obtain ⟨⟨h1, h2⟩, h3⟩ := eqv_sound (P := P) he hx hy
        exact ⟨_, by simp [h3, h1], VR.lit _⟩
      · rename_i b he
        obtain ⟨⟨h1, h2⟩, h3⟩ := eqv_sound (P := P) he hx hy
        exact ⟨_, by simp [h3, h2], VR.lit _⟩
  · -- convert
    rename_i src dst x hop
    rw [hop] at hr ⊢
    have h0 := hr x (by simp [Op.operands])
    split at h <;> simp only [forceA_eq, Option.some.injEq, Prod.mk.injEq, reduceCtorEq] at h <;> obtain ⟨rfl, rfl⟩ := h <;> try simp only [conj] at hc
    · rename_i k' k k2 n hs hd he
      rw [he] at h0; have h1 := h0.lit_inv
      refine ⟨_, by simp [h1, convert, run_underlying hs, run_underlying hd, Conv.intToInt]; rfl, ?_⟩
      rw [hc.wrap]; exact .lit _
    · rename_i s hs hd he
      rw [he] at h0; have h1 := h0.lit_inv
      refine ⟨_, by simp [h1, convert, run_underlying hs, run_underlying hd], VR.lit _⟩
  · -- fieldAddr
    rename_i s x f hop
    rw [hop] at hr ⊢
    have h0 := hr x (by simp [Op.operands])
    split at h
    case h_2 => cases h
    rename_i off ty hf
    obtain ⟨fs, fd, hu, hfd, rfl, rfl⟩ := fldOf_spec hf
    split at h
    case isTrue => cases h
    rename_i hsz
    have hsr := cellsOf_run (w := w) (P := P) (t := fd.type) rfl hsz
    split at h <;> simp only [forceL_eq, forceA_eq, Option.some.injEq, Prod.mk.injEq, reduceCtorEq] at h <;> obtain ⟨rfl, rfl⟩ := h <;> try simp only [conj] at hc
    · rename_i cs he
      rw [he] at h0
      obtain ⟨ad, us, h1, h2, h3, h4⟩ := h0.rop_inv
      refine ⟨.pointer (some (ad.add fd.offset)), by simp [h1, Instr.fieldAt, Instr.sureAddr, fieldPlace, run_underlying hu, hfd, hsr, hsz], ?_⟩
      have h2' := h2.drop fd.offset
      refine .rop (us.drop fd.offset) h2'.1 (fun k u hk => ?_) h2'.2 (fun hne => ?_)
      · rw [add_add]; exact h3 _ u (by simpa using hk)
      · rw [block_of_add']; exact h4 (by rintro rfl; simp at hne)
    · rename_i g o he
      rw [he] at h0
      have h1 := h0.lit_inv
      refine ⟨.pointer (some ((⟨g, o, none⟩ : Addr).add fd.offset)), by simp [h1, Instr.fieldAt, Instr.sureAddr, fieldPlace, run_underlying hu, hfd, hsr, hsz], ?_⟩
      rw [addr_add]; exact .lit _
  · -- field
    rename_i s x f hop
    rw [hop] at hr ⊢
    have h0 := hr x (by simp [Op.operands])
    split at h
    case h_2 => cases h
    rename_i off ty cs hf he
    obtain ⟨fs, fd, hu, hfd, rfl, rfl⟩ := fldOf_spec hf
    rw [he] at h0
    obtain ⟨us, h1, h2⟩ := h0.agg_inv
    cases hagg : aggT P fd.type with
    | true =>
      rw [hagg] at h
      simp only [if_true, forceL_eq, Option.some.injEq, Prod.mk.injEq] at h
      obtain ⟨rfl, rfl⟩ := h
      have hia : (isAgg fd.type).run P w = .ok true w := by
        unfold aggT at hagg
        unfold isAgg
        cases hq : P.underlying fd.type with
        | none => rw [hq] at hagg; cases hagg
        | some d => rw [Sem.run_bind, run_underlying hq]; rw [hq] at hagg; cases d <;> simp_all
      by_cases hz : P.cellsOf fd.type = 0
      · have hs0 : ∃ n, (sizeOf fd.type).run P w = .ok n w ∧ n = 0 := by
          unfold Program.cellsOf at hz
          cases hi : P.info? fd.type with
          | none =>
            unfold aggT Program.underlying at hagg
            rw [hi] at hagg; cases hagg
          | some i => rw [hi] at hz; simp at hz; exact ⟨0, by simp [sizeOf, typeInfo, hi, hz], rfl⟩
        obtain ⟨n, hs0, rfl⟩ := hs0
        refine ⟨.agg #[], by simp [h1, Instr.field, run_underlying hu, hfd, part, hia, asAgg, hs0], ?_⟩
        rw [hz]; simpa using VR.agg (w := w) (D := H.dom) (cs := []) [] rfl (fun k x u h => by simp at h)
      · have hsr := cellsOf_run (w := w) (P := P) (t := fd.type) rfl hz
        refine ⟨.agg ((us.drop fd.offset).take (P.cellsOf fd.type)).toArray, ?_, ?_⟩
        · have : (us.toArray.extract fd.offset (fd.offset + P.cellsOf fd.type)) = ((us.drop fd.offset).take (P.cellsOf fd.type)).toArray := by
            apply Array.ext'
            simp [Array.toList_extract, List.extract_eq_take_drop]
          simp [h1, Instr.field, run_underlying hu, hfd, part, hia, asAgg, hsr, this]
        · have := (h2.drop fd.offset).take (P.cellsOf fd.type)
          exact .agg _ this.1 this.2
    | false =>
      rw [hagg] at h
      simp only [Bool.false_eq_true, if_false] at h
      split at h
      case h_2 => cases h
      rename_i d q hq hcs
      simp only [forceA_eq, Option.some.injEq, Prod.mk.injEq] at h; obtain ⟨rfl, rfl⟩ := h; try simp only [conj] at hc
      obtain ⟨u, hu1, hu2⟩ := h2.at_ hcs
      have hia : (isAgg fd.type).run P w = .ok false w := by
        unfold aggT at hagg
        unfold isAgg
        rw [Sem.run_bind, run_underlying hq]; rw [hq] at hagg; cases d <;> simp_all
      exact ⟨u, by simp [h1, Instr.field, run_underlying hu, hfd, part, hia, asAgg, hu1], hu2⟩
  · -- extract
    rename_i t i hop
    rw [hop] at hr ⊢
    have h0 := hr t (by simp [Op.operands])
    split at h
    case h_2 => cases h
    rename_i vs he
    rw [he] at h0
    obtain ⟨us, h1, h2⟩ := h0.tup_inv
    cases hv : vs[i]? with
    | none => rw [hv] at h; cases h
    | some q =>
      rw [hv] at h
      simp only [forceA_eq, Option.some.injEq, Prod.mk.injEq] at h; obtain ⟨rfl, rfl⟩ := h; try simp only [conj] at hc
      obtain ⟨u, hu1, hu2⟩ := h2.at_ hv
      exact ⟨u, by simp [h1, Instr.extract, hu1], hu2⟩
  · -- makeInterface
    rename_i t x hop
    rw [hop] at hr ⊢
    have h0 := hr x (by simp [Op.operands])
    split at h <;> simp only [forceA_eq, Option.some.injEq, Prod.mk.injEq, reduceCtorEq] at h <;> obtain ⟨rfl, rfl⟩ := h <;> try simp only [conj] at hc
    rename_i d hni hu
    refine ⟨.iface t (a.eval x), ?_, VR.ifc h0⟩
    simp only [Instr.makeInterface, Sem.run_bind, run_underlying hu, Result.andThen_ok]
    cases d <;> first | rfl | (exact (hni _ hu).elim)
  · -- makeFunc
    rename_i f first captured hop
    rw [hop] at hr ⊢
    simp only [forceL_eq, forceA_eq, Option.some.injEq, Prod.mk.injEq] at h; obtain ⟨rfl, rfl⟩ := h; try simp only [conj] at hc
    refine ⟨.func f (first.map a.eval) (captured.map a.eval), by simp [Instr.makeFunc], ?_⟩
    have e1 : first.map a.eval = (first.toList.map a.eval).toArray := by apply Array.ext'; rw [Array.toList_map]
    have e2 : captured.map a.eval = (captured.toList.map a.eval).toArray := by apply Array.ext'; rw [Array.toList_map]
    rw [e1, e2]
    refine .clo _ _ (by simp) (fun k x u hx hu => ?_) (by simp) (fun k x u hx hu => ?_)
    · rw [List.getElem?_map] at hx hu
      cases hq : first.toList[k]? with
      | none => rw [hq] at hx; cases hx
      | some y =>
        rw [hq] at hx hu
        simp only [Option.map_some, Option.some.injEq] at hx hu
        subst hx; subst hu
        exact hr y (Array.mem_append.2 (.inl (Array.mem_toList_iff.1 (List.mem_of_getElem? hq))))
    · rw [List.getElem?_map] at hx hu
      cases hq : captured.toList[k]? with
      | none => rw [hq] at hx; cases hx
      | some y =>
        rw [hq] at hx hu
        simp only [Option.map_some, Option.some.injEq] at hx hu
        subst hx; subst hu
        exact hr y (Array.mem_append.2 (.inr (Array.mem_toList_iff.1 (List.mem_of_getElem? hq))))
  · -- len
    rename_i args ts hop
    rw [hop] at hr ⊢
    split at h
    case h_2 => cases h
    rename_i x t hx ht
    have ha : args = #[x] := by apply Array.ext'; simpa using hx
    have hts : ts = #[t] := by apply Array.ext'; simpa using ht
    subst ha; subst hts
    cases hl : lenA P t (env.ev x) with
    | none => rw [hl] at h; cases h
    | some n =>
      rw [hl] at h
      simp only [forceA_eq, Option.some.injEq, Prod.mk.injEq] at h; obtain ⟨rfl, rfl⟩ := h; try simp only [conj] at hc
      have h0 := hr x (by simp [Op.operands, Call.operands])
      refine ⟨_, ?_, VR.lit _⟩
      simp only [resolve, Sem.run_bind, Sem.run_pure, Result.andThen_ok, invoke, builtin, List.map_toArray, List.map_cons, List.map_nil, lenA_sound (P := P) hl h0]
  · -- min
    rename_i args ts hop
    rw [hop] at hr ⊢
    split at h
    case h_2 => cases h
    rename_i x y hx
    have ha : args = #[x, y] := by apply Array.ext'; simpa using hx
    subst ha
    split at h
    case h_2 => cases h
    rename_i k a' k' b' hx' hy'
    simp only [forceA_eq, Option.some.injEq, Prod.mk.injEq] at h; obtain ⟨rfl, rfl⟩ := h; try simp only [conj] at hc
    have h0 := hr x (by simp [Op.operands, Call.operands])
    have h1 := hr y (by simp [Op.operands, Call.operands])
    rw [hx'] at h0; rw [hy'] at h1
    have e0 := h0.lit_inv; have e1 := h1.lit_inv
    refine ⟨_, ?_, VR.lit _⟩
    simp [resolve, invoke, builtin, Builtin.min_, Builtin.min2, e0, e1]
  · -- max
    rename_i args ts hop
    rw [hop] at hr ⊢
    split at h
    case h_2 => cases h
    rename_i x y hx
    have ha : args = #[x, y] := by apply Array.ext'; simpa using hx
    subst ha
    split at h
    case h_2 => cases h
    rename_i k a' k' b' hx' hy'
    simp only [forceA_eq, Option.some.injEq, Prod.mk.injEq] at h; obtain ⟨rfl, rfl⟩ := h; try simp only [conj] at hc
    have h0 := hr x (by simp [Op.operands, Call.operands])
    have h1 := hr y (by simp [Op.operands, Call.operands])
    rw [hx'] at h0; rw [hy'] at h1
    have e0 := h0.lit_inv; have e1 := h1.lit_inv
    refine ⟨_, ?_, VR.lit _⟩
    simp [resolve, invoke, builtin, Builtin.max_, Builtin.max2, e0, e1]
  · -- index
    rename_i t x i hop
    rw [hop] at hr ⊢
    split at h <;> simp only [forceA_eq, Option.some.injEq, Prod.mk.injEq, reduceCtorEq] at h <;> obtain ⟨rfl, rfl⟩ := h <;> try simp only [conj] at hc
    rename_i l kk k hu hx hi
    have h0 := hr x (by simp [Op.operands])
    have h1 := hr i (by simp [Op.operands])
    rw [hx] at h0; rw [hi] at h1
    have e0 := h0.lit_inv; have e1 := h1.lit_inv
    refine ⟨_, ?_, .lit _⟩
    have hg : (ByteArray.mk ⟨l⟩)[k.toNat]? = some (l.getD k.toNat 0) := by
      rw [ByteArray.getElem?_lt' _ _ hc.2]
      show some l[k.toNat] = _
      rw [List.getD_eq_getElem?_getD, List.getElem?_eq_getElem hc.2]; rfl
    simp only [e0, e1, Instr.index, asIntOf, Sem.run_bind, Sem.run_pure, Result.andThen_ok, run_underlying hu]
    rw [if_pos hc.1]
    simp only [hg, Sem.run_pure, Result.andThen_ok]
  · -- build
    rename_i t parts hop
    rw [hop] at hr ⊢
    cases hz : zeroA P t with
    | none => rw [hz] at h; simp at h
    | some z =>
      cases hp : placesOf P t with
      | none => rw [hz, hp] at h; simp at h
      | some pl =>
        rw [hz, hp] at h
        simp only at h
        cases hf : fillA pl z (parts.toList.map fun p => (p.1, env.ev p.2)) with
        | none => rw [hf] at h; cases h
        | some cs =>
          rw [hf] at h
          simp only [forceL_eq, forceA_eq, Option.some.injEq, Prod.mk.injEq] at h; obtain ⟨rfl, rfl⟩ := h; try simp only [conj] at hc
          unfold zeroA at hz
          cases hi : P.info? t with
          | none => rw [hi] at hz; cases hz
          | some it =>
            rw [hi] at hz
            simp only at hz
            cases hz2 : it.zero with
            | none => rw [hz2] at hz; cases hz
            | some zz =>
              rw [hz2] at hz
              simp only [Option.some.injEq] at hz
              subst hz
              have hzv : VRs w H.dom (zz.cells.toList.map ofCell) zz.cells.toList := VRs.map_cell _
              obtain ⟨us', hf1, hf2⟩ := fill_sound pl _ (parts.toList.map fun p => (p.1, a.eval p.2)) _ zz.cells _ hzv hf (by simp) (fun k p q h1 h2 => by
                rw [List.getElem?_map] at h1 h2
                cases hq : parts.toList[k]? with
                | none => rw [hq] at h1; cases h1
                | some y =>
                  rw [hq] at h1 h2
                  simp only [Option.map_some, Option.some.injEq] at h1 h2
                  subst h1; subst h2
                  refine ⟨rfl, hr y.2 ?_⟩
                  simp only [Op.operands, List.mem_toArray, List.mem_map]
                  exact ⟨y, List.mem_of_getElem? hq, rfl⟩)
              have hb : P.built t (parts.toList.map fun p => (p.1, a.eval p.2)) = some us' := by
                unfold Program.built
                unfold placesOf at hp
                rw [hi] at hp ⊢
                cases hu : P.underlying t with
                | none => rw [hu] at hp; simp at hp
                | some d =>
                  rw [hu] at hp
                  cases d <;> simp only [Option.some.injEq, reduceCtorEq] at hp
                  · rename_i n e
                    simp only [hz2]
                    cases hie : P.info? e with
                    | none => rw [hie] at hp; cases hp
                    | some ie => rw [hie] at hp; simp only [Option.some.injEq] at hp; subst hp; exact hf1
                  · rename_i fields
                    simp only [hz2]
                    cases hie : fields.toList.mapM (fun f => (P.info? f.type).map fun i => (f.offset, i.size)) with
                    | none => rw [hie] at hp; cases hp
                    | some ie => rw [hie] at hp; simp only [Option.some.injEq] at hp; subst hp; exact hf1
              refine ⟨.agg us', ?_, ?_⟩
              · have := run_build (P := P) w t (parts.map fun p => (p.1, a.eval p.2)) us' (by rw [Array.toList_map]; exact hb)
                simp only [Sem.run_bind, this, Result.andThen_ok, Sem.run_pure]
              · exact .agg us'.toList hf2.1 hf2.2
  · -- slice
    rename_i t x lo hi mx hop
    rw [hop] at hr ⊢
    have h0 := hr x (by simp [Op.operands])
    obtain ⟨v', h1, h2⟩ := sliceA_sound (w := w) (D := H.dom) h hc h0 (ul := lo.map a.eval) (uh := hi.map a.eval) (um := mx.map a.eval) (by simp) (fun p q hp hq => by
        cases lo with
        | none => cases hp
        | some y => simp only [Option.map_some, Option.some.injEq] at hp hq; subst hp; subst hq; exact hr y (by simp [Op.operands])) (by simp) (fun p q hp hq => by
        cases hi with
        | none => cases hp
        | some y => simp only [Option.map_some, Option.some.injEq] at hp hq; subst hp; subst hq; exact hr y (by simp [Op.operands])) (by simp) (fun p q hp hq => by
        cases mx with
        | none => cases hp
        | some y => simp only [Option.map_some, Option.some.injEq] at hp hq; subst hp; subst hq; exact hr y (by simp [Op.operands]))
    exact ⟨v', by simp only [Sem.run_bind, h1, Result.andThen_ok, Sem.run_pure], h2⟩
  · cases h
end Go.Vc
