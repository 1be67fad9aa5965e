/-
  The comparison of two edits answers by file, from, to: a walk with the kit's tactics.
-/
import Derived.Test.YtdflfbolaicliaaSort
import Derived.Deep.RegionHeld2
import Derived.Test.YtdflfbolaicliaaEs
import Derived.WalkKit
import Derived.Deep.LoopGhost
import Derived.Lib.Walk
import Derived.Lib.SliceRun
namespace Go.Proofs
open Go.Shelf Go.RowKit Go.Lib Go.Sort
open Go.Sh (orI cmpE)
set_option maxHeartbeats 4000000 in
set_option maxRecDepth 100000 in
theorem Try.or3 (x0 x1 x2 : Int) (b : Nat) (w : World) (h0 : w.cell? ⟨b, 0, none⟩ = some (.int .i64 x0)) (h1 : w.cell? ⟨b, 1, none⟩ = some (.int .i64 x1)) (h2 : w.cell? ⟨b, 2, none⟩ = some (.int .i64 x2)) :
    Calls Try.prog 47 #[.slice (some ⟨b, 0, none⟩) 3 3] w fun e w' => e = .returned (.int .i64 (orI [x0, x1, x2])) ∧ w' = w := by
  go_enter Try.func47, Try.ntmps47
  go_wp2
  go_loopg [5, 8] 3 (fun gg _ s8 wr => ∃ kk : Nat, kk ≤ 3 ∧ 3 - kk ≤ gg ∧ s8 = .int .i64 kk ∧ wr = w ∧ Aside (orI [x0, x1, x2] = orI ([x0, x1, x2].drop kk)))
  case atStart => exact ⟨0, Nat.zero_le _, by omega, rfl, rfl, rfl⟩
  case round =>
    obtain ⟨kk, hkk, hg, rfl, rfl, A⟩ := hrel
    by_cases hlt : kk < 3
    · have hltz : (kk : Int) < (3 : Int) := by omega
      obtain ⟨z, hz, hd⟩ : ∃ z, wr.cell? ⟨b, kk, none⟩ = some (.int .i64 z) ∧ [x0, x1, x2].drop kk = z :: [x0, x1, x2].drop (kk + 1) := by
        match kk, hlt with
        | 0, _ => exact ⟨_, h0, rfl⟩
        | 1, _ => exact ⟨_, h1, rfl⟩
        | 2, _ => exact ⟨_, h2, rfl⟩
      have B : Aside ([x0, x1, x2].drop kk = z :: [x0, x1, x2].drop (kk + 1)) := hd
      clear hd
      by_cases hzz : z = 0
      · subst hzz
        go_wp2
        go_roundg (3 - (kk + 1))
        case measure => omega
        case rel => exact ⟨kk + 1, by omega, by omega, by go_num, rfl, (show Aside _ from by show _ = _; rw [A.out, B.out]; rfl)⟩
      · go_wp2
        go_ret
        exact ⟨by rw [A.out, B.out]; simp [orI, hzz], rfl⟩
    · have hltz : ¬ (kk : Int) < (3 : Int) := by omega
      have : kk = 3 := by omega
      subst this
      go_wp2
      go_ret
      exact ⟨by rw [A.out]; rfl, rfl⟩
def encE (x : Go.Sh.GEdit) : List Value := [.int .i64 x.file_, .int .i64 x.from_, .int .i64 x.to, .string ⟨⟨x.text⟩⟩]
set_option maxHeartbeats 600000 in
set_option maxRecDepth 100000 in
theorem Try.order (x y : Go.Sh.GEdit) (W : World) : Calls Try.prog 40 #[.agg (encE x).toArray, .agg (encE y).toArray] W fun e w' => e = .returned (.int .i64 (cmpE x y)) ∧ ∃ q os', w' = grow (W.drewN q) os' := by
  obtain ⟨xf, xa, xb, xt⟩ := x
  obtain ⟨yf, ya, yb, yt⟩ := y
  show Calls Try.prog 40 #[.agg #[.int .i64 xf, .int .i64 xa, .int .i64 xb, .string ⟨⟨xt⟩⟩], .agg #[.int .i64 yf, .int .i64 ya, .int .i64 yb, .string ⟨⟨yt⟩⟩]] W fun e w' => e = .returned (.int .i64 (orI [Lib.compareInt xf yf, Lib.compareInt xa ya, Lib.compareInt xb yb])) ∧ ∃ q os', w' = grow (W.drewN q) os'
  have hc := fun x y W' => AnyG.cmp_Compare_int Try.cmpInt x y W'
  change ∀ x y W', Calls Try.prog 48 _ _ _ at hc
  generalize Lib.compareInt = cf at hc ⊢
  go_enter Try.func40, Try.ntmps40
  go_wp2_with fail
  have hg : ∀ o1 o2 : Obj, (W.alloc o1).alloc o2 = grow W #[o1, o2] := fun o1 o2 => by rw [alloc_eq_grow, alloc_eq_grow, grow_grow]; rfl
  rw [hg]
  have f1 : ∀ (c1 c2 : Array Value) (t : TypeId) (k : Nat), (grow W #[Obj.cells c1 t, Obj.cells c2 t]).cell? ⟨W.heap.size, k, none⟩ = c1[k]? := fun c1 c2 t k => by simp [grow, World.cell?]
  have f2 : ∀ (c1 c2 : Array Value) (t : TypeId) (k : Nat), (grow W #[Obj.cells c1 t, Obj.cells c2 t]).cell? ⟨W.heap.size + 1, k, none⟩ = c2[k]? := fun c1 c2 t k => by simp [grow, World.cell?]
  obtain ⟨os0, hos⟩ : ∃ os0, os0 = #[Obj.cells #[Value.int IntKind.i64 xf, Value.int IntKind.i64 xa, Value.int IntKind.i64 xb, Value.string ⟨⟨xt⟩⟩] 49, Obj.cells #[Value.int IntKind.i64 yf, Value.int IntKind.i64 ya, Value.int IntKind.i64 yb, Value.string ⟨⟨yt⟩⟩] 49] := ⟨_, rfl⟩
  have g1 : (grow W os0).cell? ⟨W.heap.size, 0, none⟩ = some (.int .i64 xf) := by rw [hos, f1]; rfl
  have g2 : (grow W os0).cell? ⟨W.heap.size, 1, none⟩ = some (.int .i64 xa) := by rw [hos, f1]; rfl
  have g3 : (grow W os0).cell? ⟨W.heap.size, 2, none⟩ = some (.int .i64 xb) := by rw [hos, f1]; rfl
  have g4 : (grow W os0).cell? ⟨W.heap.size + 1, 0, none⟩ = some (.int .i64 yf) := by rw [hos, f2]; rfl
  have g5 : (grow W os0).cell? ⟨W.heap.size + 1, 1, none⟩ = some (.int .i64 ya) := by rw [hos, f2]; rfl
  have g6 : (grow W os0).cell? ⟨W.heap.size + 1, 2, none⟩ = some (.int .i64 yb) := by rw [hos, f2]; rfl
  rw [← hos]
  clear hos hg f1 f2
  obtain ⟨w1, hw1⟩ : ∃ w1, w1 = grow W os0 := ⟨_, rfl⟩
  rw [← hw1] at g1 g2 g3 g4 g5 g6 ⊢
  have HW : Hid (w1 = grow W os0) := hw1
  clear hw1
  have hnew : ∀ (c : Array Value) (t : TypeId) (k : Nat), (w1.alloc (Obj.cells c t)).drew.cell? ⟨w1.heap.size, k, none⟩ = c[k]? := fun c t k => by
    have e : (w1.alloc (Obj.cells c t)).drew.heap[w1.heap.size]? = some (Obj.cells c t) := Array.getElem?_push_size
    unfold World.cell?; rw [e]; rfl
  generalize W.heap.size = b1 at g1 g2 g3 g4 g5 g6 ⊢
  go_region_held2 (fun w' => w'.cell? ⟨b1, 0, none⟩ = some (.int .i64 xf) ∧ w'.cell? ⟨b1, 1, none⟩ = some (.int .i64 xa) ∧ w'.cell? ⟨b1, 2, none⟩ = some (.int .i64 xb) ∧ w'.cell? ⟨b1 + 1, 0, none⟩ = some (.int .i64 yf) ∧ w'.cell? ⟨b1 + 1, 1, none⟩ = some (.int .i64 ya) ∧ w'.cell? ⟨b1 + 1, 2, none⟩ = some (.int .i64 yb)) (go_keep)
    (first
      | (go_at_call 48; refine (hc _ _ _).mono ?_; rintro e w' ⟨rfl, rfl⟩)
      | (go_at_call 47; refine (Try.or3 (cf xf yf) (cf xa ya) (cf xb yb) _ _ (by rw [hnew]; rfl) (by rw [hnew]; rfl) (by rw [hnew]; rfl)).mono ?_; rintro e w' ⟨rfl, rfl⟩))
  all_goals go_wp2
  all_goals go_ret
  all_goals (exact ⟨rfl, 1, os0 ++ #[Obj.cells #[.int .i64 (cf xf yf), .int .i64 (cf xa ya), .int .i64 (cf xb yb)] 3], by rw [HW.out, alloc_eq_grow, grow_grow]; rfl⟩)
end Go.Proofs
