/-
  Part of the proof of If.
-/
import Derived.WalkKit
import Derived.Deep.LoopGhost
import Derived.Deep.MidRow
import Derived.Orders
import Derived.RangeFuncNested
import Derived.RangeFuncCalls
import Derived.TacticsIn
import Derived.OrdersIn

set_option linter.unusedVariables false
set_option linter.unusedSimpArgs false
namespace Go.Vc
open Go
inductive AV where
 | lit (v : Value)
 | rows (size : Nat) (es : List (List AV))
 | own (n : Nat) (p : Option (Nat × Nat))
 | agg (cs : List AV)
 | tup (vs : List AV)
 | rop (cs : List AV)
 | clo (f : Fn) (first cap : List AV)
 | ifc (t : TypeId) (x : AV)
 deriving Inhabited
abbrev AV.buf (g n cap : Nat) : AV := .own n (some (g, cap))
def AV.one : AV → Bool
 | .lit v => v.oneCell'
 | .agg _ | .tup _ => false
 | _ => true
inductive AObj where
 | cells (t : TypeId) (cs : List AV)
 | row (t : TypeId) (size : Nat) (es : List (List AV)) (cap : Nat)
 | raw (o : Obj)
 | map (es : List (Value × AV))
 | loop (N : Nat) (env : Nat → AV) (rec : Loop)
 | ro (vs : List Value)
 | mopen (ents : List MapEntry) (clock : Nat) (vs : List AV)
def AObj.ownd : AObj → Bool
 | .ro _ => false
 | _ => true
abbrev Heap := Nat → Option AObj
def Heap.dom (H : Heap) (g : Nat) : Prop := ∃ o, H g = some o ∧ o.ownd = true
def Heap.set (H : Heap) (g : Nat) (o : AObj) : Heap := fun k => if k = g then some o else H k
def Heap.del (H : Heap) (g : Nat) : Heap := fun k => if k = g then none else H k
def Heap.le (H H' : Heap) : Prop := ∀ g o, H g = some o → H' g = some o
def Heap.empty : Heap := fun _ => none
theorem uO (H : Heap) (g : Nat) (o : AObj) : (H.set g o) g = some o := by simp [Heap.set]
theorem uS (H : Heap) {g k : Nat} (o : AObj) (h : k ≠ g) : (H.set g o) k = H k := by simp [Heap.set, h]
theorem uD (H : Heap) : H.le H := fun _ _ h => h
theorem uY {A B C : Heap} (h : A.le B) (k : B.le C) : A.le C := fun g o hg => k g o (h g o hg)
theorem Heap.le_set {H H' : Heap} (h : H.le H') {g : Nat} (hg : H g = none) (o : AObj) : H.le (H'.set g o) := fun k x hk => by
  have hne : k ≠ g := by rintro rfl; rw [hg] at hk; cases hk
  rw [uS _ _ hne]; exact h k x hk
theorem Heap.le_none {H H' : Heap} (h : H.le H') {g : Nat} (hg : H' g = none) : H g = none := by
  cases hh : H g with
  | none => rfl
  | some o => have := h g o hh; rw [hg] at this; cases this
inductive VR (w : World) (D : Nat → Prop) : AV → Value → Prop
 | lit (v : Value) : VR w D (.lit v) v
 | rows {size : Nat} {es : List (List AV)} {a : Addr} {cap : Nat} (us : List Value) (hs : ∀ e ∈ es, e.length = size) (hl : us.length = es.flatten.length)
   (hc : ∀ (k : Nat) (u : Value), us[k]? = some u → w.cell? (a.add k) = some u) (hv : ∀ (k : Nat) (x : AV) (u : Value), es.flatten[k]? = some x → us[k]? = some u → VR w D x u)
   (hb : us ≠ [] → a.block < w.heap.size ∧ ¬ D a.block) (hcap : es.length ≤ cap) : VR w D (.rows size es) (.slice (some a) es.length cap)
 | rows0 {size : Nat} : VR w D (.rows size []) (.slice none 0 0)
 | buf (g n cap : Nat) : VR w D (.own n (some (g, cap))) (.slice (some ⟨g, 0, none⟩) n cap)
 | own0 : VR w D (.own 0 none) (.slice none 0 0)
 | agg {cs : List AV} (us : List Value) (hl : us.length = cs.length) (hv : ∀ (k : Nat) (x : AV) (u : Value), cs[k]? = some x → us[k]? = some u → VR w D x u) : VR w D (.agg cs) (.agg us.toArray)
 | tup {cs : List AV} (us : List Value) (hl : us.length = cs.length) (hv : ∀ (k : Nat) (x : AV) (u : Value), cs[k]? = some x → us[k]? = some u → VR w D x u) : VR w D (.tup cs) (.tuple us.toArray)
 | rop {cs : List AV} {a : Addr} (us : List Value) (hl : us.length = cs.length) (hc : ∀ (k : Nat) (u : Value), us[k]? = some u → w.cell? (a.add k) = some u)
   (hv : ∀ (k : Nat) (x : AV) (u : Value), cs[k]? = some x → us[k]? = some u → VR w D x u) (hb : us ≠ [] → a.block < w.heap.size ∧ ¬ D a.block) : VR w D (.rop cs) (.pointer (some a))
 | clo {f : Fn} {xs ys : List AV} (us vs : List Value) (hl : us.length = xs.length) (hv : ∀ (k : Nat) (x : AV) (u : Value), xs[k]? = some x → us[k]? = some u → VR w D x u)
   (hl' : vs.length = ys.length) (hv' : ∀ (k : Nat) (x : AV) (u : Value), ys[k]? = some x → vs[k]? = some u → VR w D x u) : VR w D (.clo f xs ys) (.func f us.toArray vs.toArray)
 | ifc {t : TypeId} {x : AV} {u : Value} (h : VR w D x u) : VR w D (.ifc t x) (.iface t u)
def VRs (w : World) (D : Nat → Prop) (xs : List AV) (us : List Value) : Prop := us.length = xs.length ∧ ∀ (k : Nat) (x : AV) (u : Value), xs[k]? = some x → us[k]? = some u → VR w D x u
theorem block_of_add' (a : Addr) (n : Nat) : (a.add n).block = a.block := by unfold Addr.add; split <;> rfl
theorem add_add (a : Addr) (m n : Nat) : (a.add m).add n = a.add (m + n) := by
 unfold Addr.add
 by_cases h : m = 0
 ·subst h; simp
 ·by_cases k : n = 0
  ·subst k; simp [h]
  ·have : m + n ≠ 0 := by omega
   simp [h, k, this, Nat.add_assoc]
def NonCells (w : World) (g : Nat) : Prop := ∃ o, w.heap[g]? = some o ∧ o.isCells = false
theorem NonCells.cell {w : World} {a : Addr} {u : Value} (h : NonCells w a.block) (k : w.cell? a = some u) : False := by
 obtain ⟨o, ho, hc⟩ := h
 unfold World.cell? at k
 rw [ho] at k
 cases o <;> first | (simp at k; done) | (simp [Obj.isCells] at hc)
def Stays (w : World) (D : Nat → Prop) (w' : World) (D' : Nat → Prop) : Prop := w.heap.size ≤ w'.heap.size ∧ ∀ g, g < w.heap.size → ¬ D g → NonCells w g ∨ (w'.heap[g]? = w.heap[g]? ∧ ¬ D' g)
theorem VR.stays {w w' : World} {D D' : Nat → Prop} (hs : Stays w D w' D') {x : AV} {v : Value} (h : VR w D x v) : VR w' D' x v := by
  have key : ∀ (a : Addr) (us : List Value), (us ≠ [] → a.block < w.heap.size ∧ ¬ D a.block) → (∀ (k : Nat) (u : Value), us[k]? = some u → w.cell? (a.add k) = some u) →
      (us ≠ [] → a.block < w'.heap.size ∧ ¬ D' a.block) ∧ (∀ (k : Nat) (u : Value), us[k]? = some u → w'.cell? (a.add k) = some u) := by
    intro a us hb hc
    have hk : us ≠ [] → w'.heap[a.block]? = w.heap[a.block]? ∧ ¬ D' a.block := fun hne => by
      rcases hs.2 _ (hb hne).1 (hb hne).2 with h1 | h1
      · exfalso
        cases us with
        | nil => exact hne rfl
        | cons u us => exact NonCells.cell (a := a.add 0) (by rw [block_of_add']; exact h1) (hc 0 u rfl)
      · exact h1
    refine ⟨fun hne => ⟨by have := (hb hne).1; have := hs.1; omega, (hk hne).2⟩, fun k u hu => ?_⟩
    have hne : us ≠ [] := by rintro rfl; simp at hu
    rw [World.cell?_of_block (w := w) (by rw [block_of_add']; exact (hk hne).1)]
    exact hc k u hu
  induction h with
  | lit v => exact .lit v
  | rows us hs hl hc hv hb hcap ih =>
    obtain ⟨hb', hc'⟩ := key _ us hb hc
    exact .rows us hs hl hc' (fun k x u h1 h2 => ih k x u h1 h2) hb' hcap
  | rows0 => exact .rows0
  | buf g n cap => exact .buf g n cap
  | own0 => exact .own0
  | agg us hl hv ih => exact .agg us hl fun k x u h1 h2 => ih k x u h1 h2
  | tup us hl hv ih => exact .tup us hl fun k x u h1 h2 => ih k x u h1 h2
  | rop us hl hc hv hb ih =>
    obtain ⟨hb', hc'⟩ := key _ us hb hc
    exact .rop us hl hc' (fun k x u h1 h2 => ih k x u h1 h2) hb'
  | clo us vs hl hv hl' hv' ih ih' => exact .clo us vs hl (fun k x u h1 h2 => ih k x u h1 h2) hl' (fun k x u h1 h2 => ih' k x u h1 h2)
  | ifc h ih => exact .ifc ih
theorem VR.mono {w w' : World} {D D' : Nat → Prop} (hsz : w.heap.size ≤ w'.heap.size) (hk : ∀ g, g < w.heap.size → ¬ D g → w'.heap[g]? = w.heap[g]? ∧ ¬ D' g) {x : AV} {v : Value} (h : VR w D x v) : VR w' D' x v :=
 h.stays ⟨hsz, fun g h1 h2 => .inr (hk g h1 h2)⟩
theorem VRs.stays {w w' : World} {D D' : Nat → Prop} (hs : Stays w D w' D') {xs : List AV} {us : List Value} (h : VRs w D xs us) : VRs w' D' xs us :=
 ⟨h.1, fun k x u hx hu => (h.2 k x u hx hu).stays hs⟩
theorem VRs.mono {w w' : World} {D D' : Nat → Prop} (hsz : w.heap.size ≤ w'.heap.size) (hk : ∀ g, g < w.heap.size → ¬ D g → w'.heap[g]? = w.heap[g]? ∧ ¬ D' g) {xs : List AV} {us : List Value} (h : VRs w D xs us) : VRs w' D' xs us :=
 h.stays ⟨hsz, fun g h1 h2 => .inr (hk g h1 h2)⟩
section vrs
variable {w : World} {D : Nat → Prop}
theorem VRs.nil : VRs w D [] [] := ⟨rfl, fun k x u h => by simp at h⟩
theorem VRs.nil_inv {us : List Value} (h : VRs w D [] us) : us = [] := List.eq_nil_of_length_eq_zero h.1
theorem VRs.cons {x : AV} {u : Value} {xs : List AV} {us : List Value} (h : VR w D x u) (hs : VRs w D xs us) : VRs w D (x :: xs) (u :: us) := by
 refine ⟨by simp [hs.1], fun k y v hy hv => ?_⟩
 cases k with
 | zero => simp at hy hv; subst hy; subst hv; exact h
 | succ k => exact hs.2 k y v (by simpa using hy) (by simpa using hv)
theorem VRs.cons_inv {x : AV} {xs : List AV} {us : List Value} (h : VRs w D (x :: xs) us) : ∃ u us', us = u :: us' ∧ VR w D x u ∧ VRs w D xs us' := by
  cases us with
  | nil => have := h.1; simp at this
  | cons u us' => exact ⟨u, us', rfl, h.2 0 x u rfl rfl, by have := h.1; simp at this; exact this, fun k y v hy hv => h.2 (k + 1) y v (by simpa using hy) (by simpa using hv)⟩
theorem VRs.append {xs ys : List AV} {us vs : List Value} (h : VRs w D xs us) (k : VRs w D ys vs) : VRs w D (xs ++ ys) (us ++ vs) := by
  induction xs generalizing us with
  | nil => obtain rfl := h.nil_inv; exact k
  | cons x xs ih =>
    obtain ⟨u, us', rfl, h1, h2⟩ := h.cons_inv
    exact VRs.cons h1 (ih h2)
theorem VRs.drop {xs : List AV} {us : List Value} (h : VRs w D xs us) (n : Nat) : VRs w D (xs.drop n) (us.drop n) :=
 ⟨by simp [h.1], fun k x u hx hu => h.2 (n + k) x u (by simpa using hx) (by simpa using hu)⟩
theorem VRs.take {xs : List AV} {us : List Value} (h : VRs w D xs us) (n : Nat) : VRs w D (xs.take n) (us.take n) := by
 refine ⟨by simp [h.1], fun k x u hx hu => ?_⟩
 rw [List.getElem?_take] at hx hu
 split at hx
 ·rename_i hk; rw [if_pos hk] at hu; exact h.2 k x u hx hu
 ·cases hx
theorem VRs.at_ {xs : List AV} {us : List Value} (h : VRs w D xs us) {k : Nat} {x : AV} (hx : xs[k]? = some x) : ∃ u, us[k]? = some u ∧ VR w D x u := by
 have hlt : k < us.length := by rw [h.1]; exact (List.getElem?_eq_some_iff.1 hx).1
 exact ⟨us[k], List.getElem?_eq_getElem hlt, h.2 k x _ hx (List.getElem?_eq_getElem hlt)⟩
theorem VRs.set {xs : List AV} {us : List Value} (h : VRs w D xs us) (n : Nat) {x : AV} {u : Value} (hx : VR w D x u) : VRs w D (xs.set n x) (us.set n u) := by
 refine ⟨by simp [h.1], fun k y v hy hv => ?_⟩
 rw [List.getElem?_set] at hy hv
 by_cases hk : n = k
 ·subst hk
  simp only [if_true] at hy hv
  split at hy
  ·split at hv
   ·injection hy with hy; injection hv with hv; subst hy; subst hv; exact hx
   ·cases hv
  ·cases hy
 ·rw [if_neg hk] at hy hv
  exact h.2 k y v hy hv
theorem VRs.map_lit (us : List Value) : VRs w D (us.map .lit) us := ⟨by simp, fun k x u hx hu => by
 rw [List.getElem?_map, hu] at hx; simp at hx; subst hx; exact .lit u⟩
theorem VR.lit_inv {v u : Value} (h : VR w D (.lit v) u) : u = v := by cases h; rfl
theorem VR.agg_inv {cs : List AV} {u : Value} (h : VR w D (.agg cs) u) : ∃ us, u = .agg us.toArray ∧ VRs w D cs us := by cases h with | agg us hl hv => exact ⟨us, rfl, hl, hv⟩
theorem VR.tup_inv {cs : List AV} {u : Value} (h : VR w D (.tup cs) u) : ∃ us, u = .tuple us.toArray ∧ VRs w D cs us := by cases h with | tup us hl hv => exact ⟨us, rfl, hl, hv⟩
theorem VR.buf_inv {g n c : Nat} {u : Value} (h : VR w D (.buf g n c) u) : u = .slice (some ⟨g, 0, none⟩) n c := by cases h; rfl
theorem VR.own_inv {n : Nat} {p : Option (Nat × Nat)} {u : Value} (h : VR w D (.own n p) u) : (p = none ∧ n = 0 ∧ u = .slice none 0 0) ∨ ∃ g c, p = some (g, c) ∧ u = .slice (some ⟨g, 0, none⟩) n c := by
 cases h with
 | buf g n c => exact .inr ⟨_, _, rfl, rfl⟩
 | own0 => exact .inl ⟨rfl, rfl, rfl⟩
theorem VR.nil_inv {n : Nat} {u : Value} (h : VR w D (.own n none) u) : n = 0 ∧ u = .slice none 0 0 := by cases h; exact ⟨rfl, rfl⟩
theorem VR.ifc_inv {t : TypeId} {x : AV} {u : Value} (h : VR w D (.ifc t x) u) : ∃ v, u = .iface t v ∧ VR w D x v := by cases h with | ifc h => exact ⟨_, rfl, h⟩
theorem VR.clo_inv {f : Fn} {xs ys : List AV} {u : Value} (h : VR w D (.clo f xs ys) u) : ∃ us vs, u = .func f us.toArray vs.toArray ∧ VRs w D xs us ∧ VRs w D ys vs := by
 cases h with | clo us vs hl hv hl' hv' => exact ⟨us, vs, rfl, ⟨hl, hv⟩, ⟨hl', hv'⟩⟩
theorem VR.rop_inv {cs : List AV} {u : Value} (h : VR w D (.rop cs) u) : ∃ a us, u = .pointer (some a) ∧ VRs w D cs us ∧ (∀ (k : Nat) (u : Value), us[k]? = some u → w.cell? (a.add k) = some u) ∧ (us ≠ [] → a.block < w.heap.size ∧ ¬ D a.block) := by
 cases h with | rop us hl hc hv hb => exact ⟨_, us, rfl, ⟨hl, hv⟩, hc, hb⟩
theorem VR.rows_inv {size : Nat} {es : List (List AV)} {u : Value} (h : VR w D (.rows size es) u) : (es = [] ∧ u = .slice none 0 0) ∨ ∃ a cap us, u = .slice (some a) es.length cap ∧ VRs w D es.flatten us ∧ (∀ (k : Nat) (u : Value), us[k]? = some u → w.cell? (a.add k) = some u) ∧
  (us ≠ [] → a.block < w.heap.size ∧ ¬ D a.block) ∧ (∀ e ∈ es, e.length = size) ∧ es.length ≤ cap := by
 cases h with
 | rows us hs hl hc hv hb hcap => exact .inr ⟨_, _, us, rfl, ⟨hl, hv⟩, hc, hb, hs, hcap⟩
 | rows0 => exact .inl ⟨rfl, rfl⟩
theorem VR.one {x : AV} {u : Value} (h : VR w D x u) (hx : x.one = true) : u.oneCell' = true := by
 cases h <;> first | exact hx | rfl | (simp [AV.one] at hx)
end vrs
def ObjR (w : World) (D : Nat → Prop) (g : Nat) : AObj → Prop
 | .cells t cs => ∃ us : List Value, w.heap[g]? = some (.cells us.toArray t (0, 0)) ∧ VRs w D cs us
 | .row t size es cap => ∃ cur : Array Value, w.heap[g]? = some (.cells cur t (0, 0)) ∧ cur.size = cap * size ∧ es.length ≤ cap ∧ cap ≤ maxLen ∧ (∀ e ∈ es, e.length = size) ∧ VRs w D es.flatten (cur.toList.take (es.length * size))
 | .raw o => w.heap[g]? = some o
 | .map es => ∃ (ents : List MapEntry) (clock : Nat), w.heap[g]? = some (.map ents.toArray clock) ∧ ents.map (·.key) = es.map (·.1) ∧ VRs w D (es.map (·.2)) (ents.map (·.val)) ∧ (∀ e ∈ ents, e.born < clock) ∧ (ents.map (·.born)).Nodup
 | .loop N env rec => ∃ tmps : Array Value, w.heap[g]? = some (.loop { rec with tmps := tmps }) ∧ tmps.size = N ∧ ∀ t, VR w D (env t) (tmps.getD t undef)
 | .ro vs => ∃ cur t z, w.heap[g]? = some (.cells cur t z) ∧ ∀ (k : Nat) (u : Value), vs[k]? = some u → cur[k]? = some u
 | .mopen ents clock vs => w.heap[g]? = some (.map ents.toArray clock) ∧ VRs w D vs (ents.map (·.val))
def HeapR (w : World) (H : Heap) : Prop := ∀ g o, H g = some o → ObjR w H.dom g o
theorem ObjR.lt {w : World} {D : Nat → Prop} {g : Nat} {o : AObj} (h : ObjR w D g o) : g < w.heap.size := by
  cases o with
  | cells t cs => obtain ⟨us, hg, _⟩ := h; exact (Array.getElem?_eq_some_iff.1 hg).1
  | row t size es cap => obtain ⟨cur, hg, _⟩ := h; exact (Array.getElem?_eq_some_iff.1 hg).1
  | raw o => exact (Array.getElem?_eq_some_iff.1 h).1
  | map es => obtain ⟨ents, clock, hg, _⟩ := h; exact (Array.getElem?_eq_some_iff.1 hg).1
  | loop N env rec => obtain ⟨tmps, hg, _⟩ := h; exact (Array.getElem?_eq_some_iff.1 hg).1
  | ro vs => obtain ⟨cur, t, z, hg, _⟩ := h; exact (Array.getElem?_eq_some_iff.1 hg).1
  | mopen ents clock vs => exact (Array.getElem?_eq_some_iff.1 h.1).1
theorem HeapR.fresh {w : World} {H : Heap} (h : HeapR w H) {g : Nat} (hg : w.heap.size ≤ g) : H g = none := by
  cases hh : H g with
  | none => rfl
  | some o => have := (h g o hh).lt; omega
theorem ObjR.stays {w w' : World} {D D' : Nat → Prop} (hs : Stays w D w' D') {g : Nat} {o : AObj} (hg : w'.heap[g]? = w.heap[g]?) (h : ObjR w D g o) : ObjR w' D' g o := by
  cases o with
  | cells t cs => obtain ⟨us, h1, h2⟩ := h; exact ⟨us, hg.trans h1, h2.stays hs⟩
  | row t size es cap => obtain ⟨cur, h1, h2, h3, h4, h5, h6⟩ := h; exact ⟨cur, hg.trans h1, h2, h3, h4, h5, h6.stays hs⟩
  | raw o => exact hg.trans h
  | map es => obtain ⟨ents, clock, h1, h2, h3, h4, h5⟩ := h; exact ⟨ents, clock, hg.trans h1, h2, h3.stays hs, h4, h5⟩
  | loop N env rec => obtain ⟨tmps, h1, h2, h3⟩ := h; exact ⟨tmps, hg.trans h1, h2, fun t => (h3 t).stays hs⟩
  | ro vs => obtain ⟨cur, t, z, h1, h2⟩ := h; exact ⟨cur, t, z, hg.trans h1, h2⟩
  | mopen ents clock vs => exact ⟨hg.trans h.1, h.2.stays hs⟩
theorem ObjR.mono {w w' : World} {D D' : Nat → Prop} (hsz : w.heap.size ≤ w'.heap.size) (hk : ∀ g, g < w.heap.size → ¬ D g → w'.heap[g]? = w.heap[g]? ∧ ¬ D' g) {g : Nat} {o : AObj} (hg : w'.heap[g]? = w.heap[g]?) (h : ObjR w D g o) : ObjR w' D' g o :=
 h.stays ⟨hsz, fun g h1 h2 => .inr (hk g h1 h2)⟩ hg
structure Evol (H : Heap) (w : World) (H' : Heap) (w' : World) : Prop where
 os : w'.os = w.os
 tape : w'.tape = w.tape
 output : w'.output = w.output
 size : w.heap.size ≤ w'.heap.size
 keep : ∀ g, g < w.heap.size → ¬ H.dom g → w'.heap[g]? = w.heap[g]?
 dom : ∀ g, H'.dom g → H.dom g ∨ w.heap.size ≤ g
theorem Evol.refl (H : Heap) (w : World) : Evol H w H w := ⟨rfl, rfl, rfl, Nat.le_refl _, fun _ _ _ => rfl, fun _ h => .inl h⟩
theorem Evol.trans {A B C : Heap} {a b c : World} (h : Evol A a B b) (k : Evol B b C c) : Evol A a C c where
  os := k.os.trans h.os
  tape := k.tape.trans h.tape
  output := k.output.trans h.output
  size := Nat.le_trans h.size k.size
  keep := fun g hg hn => (k.keep g (Nat.lt_of_lt_of_le hg h.size) (fun hd => by rcases h.dom g hd with h1 | h1; exact hn h1; omega)).trans (h.keep g hg hn)
  dom := fun g hg => by
    rcases k.dom g hg with h1 | h1
    · exact h.dom g h1
    · exact .inr (Nat.le_trans h.size h1)
theorem Evol.hk {H H' : Heap} {w w' : World} (e : Evol H w H' w') : ∀ g, g < w.heap.size → ¬ H.dom g → w'.heap[g]? = w.heap[g]? ∧ ¬ H'.dom g :=
  fun g hg hn => ⟨e.keep g hg hn, fun hd => by rcases e.dom g hd with h1 | h1; exact hn h1; omega⟩
theorem VR.evol {H H' : Heap} {w w' : World} (e : Evol H w H' w') {x : AV} {v : Value} (h : VR w H.dom x v) : VR w' H'.dom x v := h.mono e.size e.hk
theorem VRs.evol {H H' : Heap} {w w' : World} (e : Evol H w H' w') {x : List AV} {v : List Value} (h : VRs w H.dom x v) : VRs w' H'.dom x v := h.mono e.size e.hk
theorem Heap.le.dom {H H' : Heap} (h : H'.le H) {g : Nat} (hg : H'.dom g) : H.dom g := by obtain ⟨o, ho, h1⟩ := hg; exact ⟨o, h g o ho, h1⟩
theorem Evol.drop {H H' : Heap} (w : World) (h : H'.le H) : Evol H w H' w := ⟨rfl, rfl, rfl, Nat.le_refl _, fun _ _ _ => rfl, fun g hg => .inl (h.dom hg)⟩
theorem HeapR.drop {w : World} {H H' : Heap} (hr : HeapR w H) (h : H'.le H) : HeapR w H' :=
 fun g o hg => (hr g o (h g o hg)).mono (Nat.le_refl _) (fun k hk hn => ⟨rfl, fun hd => hn (h.dom hd)⟩) rfl
theorem Evol.drew (H : Heap) (w : World) : Evol H w H w.drew := ⟨rfl, rfl, rfl, Nat.le_refl _, fun _ _ _ => rfl, fun _ h => .inl h⟩
theorem HeapR.drew {H : Heap} {w : World} (h : HeapR w H) : HeapR w.drew H := fun g o hg => ObjR.mono (w := w) (w' := w.drew) (D := H.dom) (D' := H.dom) (Nat.le_refl _) (fun _ _ hn => ⟨rfl, hn⟩) rfl (h g o hg)
theorem Evol.alloc {H : Heap} {w : World} (ob : Obj) (o : AObj) : Evol H w (H.set w.heap.size o) (w.alloc ob) where
 os := rfl
 tape := rfl
 output := rfl
 size := by simp
 keep := fun g hg _ => heap_alloc_old w ob hg
 dom := fun g hg => by
  obtain ⟨x, hx, h1⟩ := hg
  by_cases h : g = w.heap.size
  ·exact .inr (by omega)
  ·rw [uS _ _ h] at hx; exact .inl ⟨x, hx, h1⟩
theorem HeapR.alloc {H : Heap} {w : World} (h : HeapR w H) (ob : Obj) (o : AObj) (ho : ObjR (w.alloc ob) (H.set w.heap.size o).dom w.heap.size o) : HeapR (w.alloc ob) (H.set w.heap.size o) := fun g x hg => by
 by_cases hs : g = w.heap.size
 ·subst hs; rw [uO] at hg; injection hg with hg; subst hg; exact ho
 ·rw [uS _ _ hs] at hg
  have hlt := (h g x hg).lt
  exact (h g x hg).mono (by simp) (Evol.alloc ob o).hk (heap_alloc_old w ob hlt)
theorem vY {H : Heap} {w : World} (ob : Obj) : Evol H w H (w.alloc ob) :=
 ⟨rfl, rfl, rfl, by simp, fun g hg _ => heap_alloc_old w ob hg, fun g hg => .inl hg⟩
theorem HeapR.evolN {H : Heap} {w w' : World} (h : HeapR w H) (e : Evol H w H w') (hb : ∀ g o, H g = some o → w'.heap[g]? = w.heap[g]?) : HeapR w' H := fun g x hg =>
 (h g x hg).mono e.size e.hk (hb g x hg)
theorem HeapR.absent {H : Heap} {w : World} {D : Nat} (h : HeapR w H) (hn : ¬ H.dom D) (hc : NonCells w D) : H D = none := by
  cases hh : H D with
  | none => rfl
  | some o =>
    cases ho : o.ownd with
    | true => exact (hn ⟨o, hh, ho⟩).elim
    | false =>
      cases o with
      | ro vs =>
        obtain ⟨cur, t, z, h1, _⟩ := h D _ hh
        obtain ⟨o', h2, h3⟩ := hc
        rw [h1] at h2; injection h2 with h2; subst h2; cases h3
      | _ => cases ho
theorem Evol.write {H : Heap} {w w' : World} {g : Nat} (o : AObj) (hg : H.dom g) (hos : w'.os = w.os) (ht : w'.tape = w.tape) (ho : w'.output = w.output) (hs : w'.heap.size = w.heap.size) (hk : ∀ k, k ≠ g → w'.heap[k]? = w.heap[k]?) : Evol H w (H.set g o) w' where
 os := hos
 tape := ht
 output := ho
 size := by omega
 keep := fun k _ hn => hk k (fun e => hn (e ▸ hg))
 dom := fun k hd => by
  obtain ⟨x, hx, h1⟩ := hd
  by_cases h : k = g
  ·subst h; exact .inl hg
  ·rw [uS _ _ h] at hx; exact .inl ⟨x, hx, h1⟩
theorem vU {H : Heap} {w w' : World} {g : Nat} (o : AObj) (h : HeapR w H) (e : Evol H w (H.set g o) w') (hk : ∀ k, k ≠ g → w'.heap[k]? = w.heap[k]?) (ho : ObjR w' (H.set g o).dom g o) : HeapR w' (H.set g o) := fun k x hx => by
 by_cases hkg : k = g
 ·subst hkg; rw [uO] at hx; injection hx with hx; subst hx; exact ho
 ·rw [uS _ _ hkg] at hx
  exact (h k x hx).mono e.size e.hk (hk k hkg)
abbrev Env := Nat → AV
def ofCell : Value → AV
 | .slice none 0 0 => .own 0 none
 | v => .lit v
def ofConst : Value → AV
 | .agg cs => .agg (cs.toList.map ofCell)
 | v => ofCell v
def Env.ev (env : Env) : Operand → AV
 | .tmp t => env t
 | .const v => ofConst v
 | .global g => .lit (.pointer (some ⟨g, 0, none⟩))
 | .func f => .clo (.func f) [] []
def Env.put (env : Env) (d : Option Tmp) (v : AV) : Env :=
 match d with
 | some d => fun t => if t = d then v else env t
 | none => env
structure Fr where
 round : Option Nat
 base : Nat
 /-- the activation's own deferred calls, laid below the marks -/
 tail : List Deferred
def fen (r : Option Nat) : Fence := { Fence.wide with round := r }
def Mark (b : Nat) (w : World) (H : Heap) (d : Deferred) : Prop := ∃ D, d = { target := .collected D, args := #[] } ∧ b ≤ D ∧ w.heap[D]? = some (.deferred (some [])) ∧ ¬ H.dom D
def Marks (b : Nat) (tail : List Deferred) (w : World) (H : Heap) (l : List Deferred) : Prop := (∀ d ∈ tail, ∀ D, d.target ≠ .collected D) ∧ ∃ ms, l = ms ++ tail ∧ (∀ d ∈ ms, Mark b w H d) ∧ ms.Pairwise (fun d e => d.target ≠ e.target)
theorem Mark.evol {b : Nat} {H H' : Heap} {w w' : World} (e : Evol H w H' w') {d : Deferred} (h : Mark b w H d) : Mark b w' H' d := by
 obtain ⟨D, h1, h2, h3, h4⟩ := h
 obtain ⟨k1, k2⟩ := e.hk D (Array.getElem?_eq_some_iff.1 h3).1 h4
 exact ⟨D, h1, h2, k1.trans h3, k2⟩
theorem Marks.evol {b : Nat} {tail : List Deferred} {H H' : Heap} {w w' : World} (e : Evol H w H' w') {l : List Deferred} (h : Marks b tail w H l) : Marks b tail w' H' l := by
 obtain ⟨h0, ms, h1, h2, h3⟩ := h
 exact ⟨h0, ms, h1, fun d hd => (h2 d hd).evol e, h3⟩
theorem Marks.far {b : Nat} {tail : List Deferred} {w : World} {H : Heap} {l : List Deferred} (h : Marks b tail w H l) {g : Nat} (hg : w.heap[g]? ≠ some (.deferred (some []))) : ∀ d ∈ l, d.target ≠ .collected g := by
 obtain ⟨h0, ms, rfl, h2, h3⟩ := h
 intro d hd
 rcases List.mem_append.1 hd with hd | hd
 ·obtain ⟨D, rfl, _, h4, _⟩ := h2 d hd
  intro e; injection e with e; subst e; exact hg h4
 ·exact h0 d hd g
def InRound (w : World) (H : Heap) (r : Option Nat) : Prop := ∀ l, r = some l → ¬ H.dom l ∧ ∃ rec, w.heap[l]? = some (.loop rec)
theorem InRound.evol {r : Option Nat} {H H' : Heap} {w w' : World} (e : Evol H w H' w') (h : InRound w H r) : InRound w' H' r := fun l hl => by
 obtain ⟨h1, rec, h2⟩ := h l hl
 obtain ⟨k1, k2⟩ := e.hk l (Array.getElem?_eq_some_iff.1 h2).1 h1
 exact ⟨k2, rec, k1.trans h2⟩
def quietN (N : Nat) : Bool := Nat.beq N 14 || Nat.beq N 71
structure Rel (fr : Fr) (N : Nat) (env : Env) (H : Heap) (a : Act) (w : World) : Prop where
 size : a.tmps.size = N
 vals : ∀ t, VR w H.dom (env t) (a.tmps.getD t undef)
 heap : HeapR w H
 base : fr.base ≤ w.heap.size
 marks : Marks fr.base fr.tail w H a.defers
 round : InRound w H fr.round
 quiet : quietN N = true → a.defers = fr.tail
theorem VR.ofCell {w : World} {D : Nat → Prop} (v : Value) : VR w D (ofCell v) v := by
 unfold Go.Vc.ofCell
 split
 ·exact .own0
 ·exact .lit _
theorem VRs.map_cell {w : World} {D : Nat → Prop} (us : List Value) : VRs w D (us.map Go.Vc.ofCell) us := ⟨by simp, fun k x u hx hu => by
 rw [List.getElem?_map, hu] at hx
 injection hx with hx; subst hx
 exact .ofCell u⟩
theorem VR.ofConst {w : World} {D : Nat → Prop} (v : Value) : VR w D (ofConst v) v := by
 unfold Go.Vc.ofConst
 split
 ·rename_i cs
  have h := VRs.map_cell (w := w) (D := D) cs.toList
  have := VR.agg (w := w) (D := D) cs.toList h.1 h.2
  rwa [Array.toArray_toList] at this
 ·exact .ofCell _
theorem Rel.ev {fr : Fr} {N : Nat} {env : Env} {H : Heap} {a : Act} {w : World} (h : Rel fr N env H a w) (x : Operand) : VR w H.dom (env.ev x) (a.eval x) := by
 cases x with
 | tmp t => exact h.vals t
 | const v => exact .ofConst v
 | global g => exact .lit _
 | func f => exact .clo [] [] rfl (fun k x u hx => by simp at hx) rfl (fun k x u hx => by simp at hx)
theorem Rel.evol {fr : Fr} {N : Nat} {env : Env} {H H' : Heap} {a : Act} {w w' : World} (h : Rel fr N env H a w) (e : Evol H w H' w') (hr : HeapR w' H') : Rel fr N env H' a w' :=
 ⟨h.size, fun t => (h.vals t).evol e, hr, Nat.le_trans h.base e.size, h.marks.evol e, h.round.evol e, h.quiet⟩
theorem Rel.put {fr : Fr} {N : Nat} {env : Env} {H H' : Heap} {a : Act} {w w' : World} (h : Rel fr N env H a w) (e : Evol H w H' w') (hr : HeapR w' H') {d : Option Tmp} (hd : (match d with | some d => Nat.blt d N | none => true) = true) {v : AV} {u : Value} (hv : VR w' H'.dom v u) :
  Rel fr N (env.put d v) H' (a.put d u) w' := by
 have h' := h.evol e hr
 cases d with
 | none => exact h'
 | some d =>
  have hlt : d < N := by simpa [Nat.blt_eq] using hd
  refine ⟨by simp [Act.put, h.size], fun t => ?_, hr, h'.base, h'.marks, h'.round, h'.quiet⟩
  by_cases ht : t = d
  ·subst ht
   have hs : t < a.tmps.size := by rw [h.size]; exact hlt
   have : (a.put (some t) u).tmps.getD t undef = u := by simp [Act.put, Array.getD_eq_getD_getElem?, hs]
   rw [this]; simpa [Env.put] using hv
  ·have : (a.put (some d) u).tmps.getD t undef = a.tmps.getD t undef := by
    simp only [Act.put, Array.getD_eq_getD_getElem?]
    rw [Array.getElem?_setIfInBounds_ne (fun e => ht e.symm)]
   rw [this]
   simpa [Env.put, ht] using h'.vals t
theorem Rel.drop {fr : Fr} {N : Nat} {env : Env} {H H' : Heap} {a : Act} {w : World} (h : Rel fr N env H a w) (hl : H'.le H) : Rel fr N env H' a w :=
 h.evol (Evol.drop w hl) (h.heap.drop hl)
abbrev QC := Exit → Env → Heap → Prop
def Post (fr : Fr) (N : Nat) (H : Heap) (w : World) (Q : QC) : Exit → Act → World → Prop :=
 fun e a' w' => ∃ env' H', Evol H w H' w' ∧ Rel fr N env' H' a' w' ∧ Q e env' H'
def WpC (P : Program) (N : Nat) (c : Code) (env : Env) (H : Heap) (Q : QC) : Prop :=
 ∀ (fr : Fr) (n : Nat) a w, Rel fr N env H a w → c.wpIn (fen fr.round) n P (Post fr N H w Q) a w
section code
variable {P : Program} {N : Nat} {env : Env} {H : Heap} {Q : QC}
theorem Post.evol {fr : Fr} {H H1 : Heap} {w w1 : World} {e : Exit} {a : Act} {w' : World} (ev : Evol H w H1 w1) (h : Post fr N H1 w1 Q e a w') : Post fr N H w Q e a w' := by
 obtain ⟨env', H', e1, r, q⟩ := h
 exact ⟨env', H', ev.trans e1, r, q⟩
theorem WpC.mono {c : Code} {Q' : QC} (h : WpC P N c env H Q) (hq : ∀ e env H, Q e env H → Q' e env H) : WpC P N c env H Q' := fun fr n a w r =>
 wpIn_mono (h fr n a w r) fun _ _ _ ⟨env', H', e, r, q⟩ => ⟨env', H', e, r, hq _ _ _ q⟩
def thenQ (K : Env → Heap → Prop) (Q : QC) : QC
 | .normal, env, H => K env H
 | e, env, H => Q e env H
theorem WpC.seq {x y : Code} (h : WpC P N x env H (thenQ (fun env' H' => WpC P N y env' H' Q) Q)) : WpC P N (.seq x y) env H Q := fun fr n a w r => by
 refine wpIn_seq (wpIn_mono (h fr n a w r) ?_)
 rintro e a' w' ⟨env', H', ev, r', q⟩
 cases e with
 | normal => exact wpIn_mono (q fr n a' w' r') fun _ _ _ hp => hp.evol ev
 | exit id => exact ⟨env', H', ev, r', q⟩
 | goto l => exact ⟨env', H', ev, r', q⟩
 | ret => exact ⟨env', H', ev, r', q⟩
 | panic ch => exact ⟨env', H', ev, r', q⟩
 | outgrown => exact ⟨env', H', ev, r', q⟩
theorem WpC.skip (h : Q .normal env H) : WpC P N .skip env H Q := fun fr n a w r => wpIn_skip ⟨env, H, .refl _ _, r, h⟩
theorem WpC.ret (h : Q .ret env H) : WpC P N .ret env H Q := fun fr n a w r => wpIn_ret ⟨env, H, .refl _ _, r, h⟩
theorem WpC.exit {id : Nat} (h : Q (.exit id) env H) : WpC P N (.exit id) env H Q := fun fr n a w r => wpIn_exit ⟨env, H, .refl _ _, r, h⟩
theorem WpC.goto {id : Nat} (h : Q (.goto id) env H) : WpC P N (.goto id) env H Q := fun fr n a w r => wpIn_goto ⟨env, H, .refl _ _, r, h⟩
def blockQ (id : Nat) (Q : QC) : QC
 | .exit id', env, H => match Nat.beq id' id with
  | true => Q .normal env H
  | false => Q (.exit id') env H
 | e, env, H => Q e env H
theorem WpC.block {id : Nat} {c : Code} (h : WpC P N c env H (blockQ id Q)) : WpC P N (.block id c) env H Q := fun fr n a w r => by
  refine wpIn_block (wpIn_mono (h fr n a w r) ?_)
  rintro e a' w' ⟨env', H', ev, r', q⟩
  cases e with
  | exit id' =>
    simp only [Exit.inBlock]
    simp only [blockQ] at q
    split
    · rename_i hid; rw [show Nat.beq id' id = true from by rw [hid]; exact Nat.beq_refl id] at q; exact ⟨env', H', ev, r', q⟩
    · rename_i hid; rw [show Nat.beq id' id = false from by rw [Bool.eq_false_iff]; intro h; exact hid (Nat.eq_of_beq_eq_true h)] at q; exact ⟨env', H', ev, r', q⟩
  | normal => exact ⟨env', H', ev, r', q⟩
  | goto l => exact ⟨env', H', ev, r', q⟩
  | ret => exact ⟨env', H', ev, r', q⟩
  | panic ch => exact ⟨env', H', ev, r', q⟩
  | outgrown => exact ⟨env', H', ev, r', q⟩
theorem WpC.cond {c : Operand} {x y : Code} {b : Bool} (hc : env.ev c = .lit (.bool b)) (h1 : b = true → WpC P N x env H Q) (h2 : b = false → WpC P N y env H Q) : WpC P N (.cond c x y) env H Q := fun fr n a w r => by
 have hv := r.ev c
 rw [hc] at hv
 exact wpIn_cond_split hv.lit_inv (fun hb => h1 hb fr n a w r) (fun hb => h2 hb fr n a w r)
theorem loop_ghost {F : Fence} {rm : Nat} {Q : Exit → Act → World → Prop} {a : Act} {w : World} {c : Code} (I : Nat → Act → World → Prop) (n₀ : Nat) (h₀ : I n₀ a w)
  (round : ∀ n a w, I n a w → c.wpIn F rm P (Exit.then (fun a' w' => ∃ n', n' < n ∧ I n' a' w') Q) a w) : (Code.loop c).wpIn F rm P Q a w := by
 refine wpIn_loop (fun a w => ∃ n, I n a w) (fun a w => leastOf (fun n => I n a w)) ⟨n₀, h₀⟩ ?_
 intro a w hI
 refine wpIn_mono (round _ a w (leastOf_spec hI).1) ?_
 intro e a' w' hq
 cases e with
 | normal =>
  obtain ⟨n', hlt, hI'⟩ := hq
  exact show (∃ n, I n a' w') ∧ leastOf (fun n => I n a' w') < leastOf (fun n => I n a w) from ⟨⟨n', hI'⟩, Nat.lt_of_le_of_lt ((leastOf_spec ⟨n', hI'⟩).2 n' hI') hlt⟩
 | exit id => exact hq
 | goto l => exact hq
 | ret => exact hq
 | panic ch => exact hq
 | outgrown => exact hq
theorem WpC.loop {c : Code} (I : Nat → Env → Heap → Prop) (n : Nat) (h0 : I n env H)
    (round : ∀ n env H, I n env H → WpC P N c env H (thenQ (fun env' H' => ∃ n', n' < n ∧ I n' env' H') Q)) : WpC P N (.loop c) env H Q := fun fr m a w r => by
  refine loop_ghost (fun n a' w' => ∃ env' H', Evol H w H' w' ∧ Rel fr N env' H' a' w' ∧ I n env' H') n ⟨env, H, .refl _ _, r, h0⟩ ?_
  rintro n a' w' ⟨env', H', ev, r', hi⟩
  refine wpIn_mono (round n env' H' hi fr m a' w' r') ?_
  rintro e a2 w2 ⟨env2, H2, ev2, r2, q⟩
  cases e with
  | normal => obtain ⟨n', hlt, hi'⟩ := q; exact ⟨n', hlt, env2, H2, ev.trans ev2, r2, hi'⟩
  | exit id => exact ⟨env2, H2, ev.trans ev2, r2, q⟩
  | goto l => exact ⟨env2, H2, ev.trans ev2, r2, q⟩
  | ret => exact ⟨env2, H2, ev.trans ev2, r2, q⟩
  | panic ch => exact ⟨env2, H2, ev.trans ev2, r2, q⟩
  | outgrown => exact ⟨env2, H2, ev.trans ev2, r2, q⟩
theorem WpC.conv {c : Code} {env' : Env} {H' : Heap} (hc : ∀ fr a w, Rel fr N env H a w → Evol H w H' w ∧ Rel fr N env' H' a w) (h : WpC P N c env' H' Q) : WpC P N c env H Q := fun fr n a w r => by
 obtain ⟨ev, r'⟩ := hc fr a w r
 exact wpIn_mono (h fr n a w r') fun _ _ _ hp => hp.evol ev
theorem WpC.drop {c : Code} {H' : Heap} (hl : H'.le H) (h : WpC P N c env H' Q) : WpC P N c env H Q :=
 WpC.conv (fun fr a w r => ⟨Evol.drop w hl, r.drop hl⟩) h
end code
def OpR (o : Oper) (env : Env) (H : Heap) (a : Act) (w : World) : Prop := (∀ x ∈ o.op.operands, VR w H.dom (env.ev x) (a.eval x)) ∧ HeapR w H
def WpO (P : Program) (o : Oper) (env : Env) (H : Heap) (K : AV → Heap → Prop) (E : List PanicEntry → Heap → Prop) : Prop :=
 ∀ (r : Option Nat) (n : Nat) a w, OpR o env H a w → ∀ (K' : Act → World → Prop) (Q' : Exit → Act → World → Prop),
  (∀ v v' H' w', Evol H w H' w' → HeapR w' H' → VR w' H'.dom v v' → K v H' → K' (a.put o.dst v') w') →
  (∀ ch H' w', Evol H w H' w' → HeapR w' H' → E ch H' → Q' (.panic ch) a w') → o.wpIn (fen r) n P a w K' Q'
def noE : List PanicEntry → Heap → Prop := fun _ _ => False
theorem WpO.mono {P : Program} {o : Oper} {env : Env} {H : Heap} {K K2 : AV → Heap → Prop} {E E2 : List PanicEntry → Heap → Prop} (h : WpO P o env H K E) (hk : ∀ v H, K v H → K2 v H) (he : ∀ c H, E c H → E2 c H) : WpO P o env H K2 E2 :=
 fun r n a w or K' Q' h1 h2 => h r n a w or K' Q' (fun v v' H' w' e hr hv q => h1 v v' H' w' e hr hv (hk _ _ q)) (fun ch H' w' e hr q => h2 ch H' w' e hr (he _ _ q))
def noDefer (o : Oper) : Bool := match o.op with | .defer _ => false | _ => true
theorem sem_noDefer {o : Oper} (h : noDefer o = true) (r : Option Nat) (a : Act) : o.semAt r a.eval = execOp a.eval o := Oper.semAt_eq r a.eval o fun c hc => by simp [noDefer, hc] at h
theorem vQ {P : Program} {o : Oper} {env : Env} {H : Heap} {K : AV → Heap → Prop} {E : List PanicEntry → Heap → Prop} (hn : noDefer o = true)
  (h : ∀ a w, OpR o env H a w → ∃ v v' H' w', (execOp a.eval o).run P w = .ok (.value v') w' ∧ Evol H w H' w' ∧ HeapR w' H' ∧ VR w' H'.dom v v' ∧ K v H') : WpO P o env H K E := fun fr n a w r K' Q' h1 h2 => by
 obtain ⟨v, v', H', w', hr, e, hr', hv, q⟩ := h a w r
 refine ⟨fun _ _ => trivial, ?_⟩
 rw [sem_noDefer hn, hr]
 exact h1 v v' H' w' e hr' hv q
theorem WpO.of_skip {P : Program} {o : Oper} {env : Env} {H : Heap} {K : AV → Heap → Prop} {E : List PanicEntry → Heap → Prop} (hn : noDefer o = true)
  (h : ∀ a w, OpR o env H a w → ∃ H' w', (execOp a.eval o).run P w = .ok .skip w' ∧ Evol H w H' w' ∧ HeapR w' H' ∧ K (.lit undef) H') : WpO P o env H K E := fun fr n a w r K' Q' h1 h2 => by
 obtain ⟨H', w', hr, e, hr', q⟩ := h a w r
 refine ⟨fun _ _ => trivial, ?_⟩
 rw [sem_noDefer hn, hr]
 exact h1 (.lit undef) undef H' w' e hr' (.lit _) q
def Exact (P : Program) (o : Oper) (env : Env) (H : Heap) (v : AV) : Prop := WpO P o env H (fun u H' => u = v ∧ H' = H) noE
theorem vB {P : Program} {o : Oper} {env : Env} {H : Heap} {v : AV} (hn : noDefer o = true) (h : ∀ a w, OpR o env H a w → ∃ v', (execOp a.eval o).run P w = .ok (.value v') w ∧ VR w H.dom v v') : Exact P o env H v :=
 vQ hn fun a w r => let ⟨v', h1, h2⟩ := h a w r; ⟨v, v', H, w, h1, .refl _ _, r.2, h2, rfl, rfl⟩
def guardOf (ops : Array Oper) (env : Env) (o : Oper) : Option Bool :=
 match o.guard with
 | none => some true
 | some (j, want) =>
  match (ops[j]?).bind (·.dst) with
  | none => none
  | some d => match env d with
   | .lit (.bool b) => some (b == want)
   | .lit (.tuple _) => some false
   | _ => none
def dstOk (N : Nat) (o : Oper) : Bool := match o.dst with | some d => Nat.blt d N | none => true
def WpOps (P : Program) (N : Nat) (ops : Array Oper) (Q : QC) : List Oper → Env → Heap → Prop
  | [], env, H => Q .normal env H
  | o :: rest, env, H => dstOk N o = true ∧
    ((guardOf ops env o = some true ∧ WpO P o env H (fun v H' => WpOps P N ops Q rest (env.put o.dst v) H') (fun ch H' => Q (.panic ch) env H')) ∨
     (guardOf ops env o = some false ∧ WpOps P N ops Q rest (env.put o.dst (.lit undef)) H))
section ops
variable {P : Program} {N : Nat} {env : Env} {H : Heap} {Q : QC} {ops : Array Oper}
theorem Rel.opR {fr : Fr} {a : Act} {w : World} (h : Rel fr N env H a w) (o : Oper) : OpR o env H a w := ⟨fun x _ => h.ev x, h.heap⟩
theorem Rel.guard {fr : Fr} {a : Act} {w : World} (h : Rel fr N env H a w) {o : Oper} {b : Bool} (hg : guardOf ops env o = some b) : Region.wanted o (yielded ops a.tmps) = b := by
  unfold guardOf at hg
  unfold Region.wanted
  cases hgd : o.guard with
  | none => rw [hgd] at hg; simpa using hg
  | some p =>
    obtain ⟨j, want⟩ := p
    rw [hgd] at hg
    simp only at hg ⊢
    unfold yielded
    cases hd : (ops[j]?).bind (·.dst) with
    | none => rw [hd] at hg; cases hg
    | some d =>
      rw [hd] at hg
      simp only [Option.bind_some] at hg ⊢
      have hv := h.vals d
      cases hx : env d with
      | lit v =>
        rw [hx] at hg hv
        have he := hv.lit_inv
        rw [Array.getD_eq_getD_getElem?] at he
        cases v <;> simp only [Option.some.injEq, reduceCtorEq] at hg
        · rename_i c
          cases hq : a.tmps[d]? with
          | none => rw [hq] at he; simp [undef] at he
          | some u =>
            rw [hq] at he
            simp only [Option.getD_some] at he
            subst he
            simp only []
            rw [← hg]
            cases c <;> cases want <;> rfl
        · subst hg
          cases hq : a.tmps[d]? with
          | none => simp
          | some u => rw [hq] at he; simp only [Option.getD_some] at he; subst he; simp
      | _ => rw [hx] at hg; simp at hg
theorem WpOps.sound (fr : Fr) (n : Nat) : ∀ (l : List Oper) (env : Env) (H : Heap), WpOps P N ops Q l env H → ∀ a w, Rel fr N env H a w → wpListIn (fen fr.round) n P ops (Post fr N H w Q) l a w
 | [], env, H, h, a, w, r => ⟨env, H, .refl _ _, r, h⟩
 | o :: rest, env, H, h, a, w, r => by
  obtain ⟨hd, h⟩ := h
  unfold wpListIn
  rcases h with ⟨hg, h⟩ | ⟨hg, h⟩
  ·rw [if_pos (r.guard hg)]
   refine h fr.round n a w (r.opR o) _ _ ?_ ?_
   ·intro v v' H' w' e hr hv hk
    have r' := r.put e hr hd hv
    have := WpOps.sound fr n rest _ H' hk _ w' r'
    exact mono (fun _ _ _ hp => hp.evol e) _ this
   ·intro ch H' w' e hr hq
    exact ⟨env, H', e, r.evol e hr, hq⟩
  ·rw [if_neg (by rw [r.guard hg]; simp)]
   have r' := r.put (.refl H w) r.heap hd (.lit undef)
   exact ⟨fun _ _ => trivial, WpOps.sound fr n rest _ H h _ w r'⟩
where mono {F : Fence} {n : Nat} {Q1 Q2 : Exit → Act → World → Prop} (hm : ∀ e a w, Q1 e a w → Q2 e a w) : ∀ {os : List Oper} {a : Act} (w : World), wpListIn F n P ops Q1 os a w → wpListIn F n P ops Q2 os a w
  | [], a, w, h => hm _ _ _ h
  | o :: rest, a, w, h => by
    unfold wpListIn at h ⊢
    split
    · rename_i hw
      rw [if_pos hw] at h
      refine ⟨h.1, ?_⟩
      have h := h.2
      generalize (o.semAt F.round a.eval).run P w = res at h ⊢
      cases res with
      | ok nx w' =>
        cases nx <;> simp only [Oper.uponIn] at h ⊢ <;> first
          | exact mono hm _ h
          | exact ⟨h.1, h.2.mono (fun e w'' he => by
              cases e <;> first
                | exact mono hm _ he
                | exact hm _ _ _ he
                | (obtain ⟨a0, w0, h0⟩ := he; exact ⟨a0, w0, hm _ _ _ h0⟩))⟩
          | exact ⟨h.1, h.2.mono (fun _ _ he => mono hm _ he)⟩
          | exact h
      | halt x w' => cases x <;> simp only [Oper.uponIn] at h ⊢ <;> first | exact hm _ _ _ h | exact h
    · rename_i hw
      rw [if_neg hw] at h
      exact ⟨h.1, mono hm _ h.2⟩
theorem WpC.region {id : Nat} {l : List Oper} (h : WpOps P N l.toArray Q l env H) : WpC P N (.region id l.toArray false) env H Q := fun fr n a w r =>
 wpIn_region_lit (WpOps.sound fr n l env H h a w r)
theorem WpOps.cons {o : Oper} {rest : List Oper} (hg : o.guard = none) (hd : dstOk N o = true) (h : WpO P o env H (fun v H' => WpOps P N ops Q rest (env.put o.dst v) H') (fun ch H' => Q (.panic ch) env H')) : WpOps P N ops Q (o :: rest) env H :=
 ⟨hd, .inl ⟨by unfold guardOf; rw [hg], h⟩⟩
theorem uE {o : Oper} {rest : List Oper} (hg : guardOf ops env o = some true) (hd : dstOk N o = true) (h : WpO P o env H (fun v H' => WpOps P N ops Q rest (env.put o.dst v) H') (fun ch H' => Q (.panic ch) env H')) : WpOps P N ops Q (o :: rest) env H :=
 ⟨hd, .inl ⟨hg, h⟩⟩
theorem WpOps.skipG {o : Oper} {rest : List Oper} (hg : guardOf ops env o = some false) (hd : dstOk N o = true) (h : WpOps P N ops Q rest (env.put o.dst (.lit undef)) H) : WpOps P N ops Q (o :: rest) env H :=
 ⟨hd, .inr ⟨hg, h⟩⟩
theorem uB {o : Oper} {rest : List Oper} {v : AV} (hg : guardOf ops env o = some true) (hd : dstOk N o = true) (hv : Exact P o env H v) (h : WpOps P N ops Q rest (env.put o.dst v) H) : WpOps P N ops Q (o :: rest) env H :=
 ⟨hd, .inl ⟨hg, hv.mono (fun u H' ⟨h1, h2⟩ => by subst h1; subst h2; exact h) (fun _ _ h => h.elim)⟩⟩
theorem WpOps.nil (h : Q .normal env H) : WpOps P N ops Q [] env H := h
theorem WpOps.cut (M : Env → Heap → Prop) : ∀ (l1 : List Oper) {l2 : List Oper} {env : Env} {H : Heap}, WpOps P N ops (thenQ M Q) l1 env H → (∀ env H, M env H → WpOps P N ops Q l2 env H) → WpOps P N ops Q (l1 ++ l2) env H
 | [], l2, env, H, h, k => k env H h
 | o :: l1, l2, env, H, ⟨hd, h⟩, k => ⟨hd, h.imp (fun ⟨hg, h⟩ => ⟨hg, h.mono (fun v H' hh => WpOps.cut M l1 hh k) (fun _ _ hh => hh)⟩) (fun ⟨hg, h⟩ => ⟨hg, WpOps.cut M l1 h k⟩)⟩
end ops
end Go.Vc
