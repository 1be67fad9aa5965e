/-
  Lists of tokens that are one: by the document. No program in sight.
-/
import Derived.Test.YtffgaoehhmgbjaaDoorAm
set_option linter.unusedVariables false
set_option linter.unusedSimpArgs false
namespace Go.Sh
open Go
theorem rsame_eq (a b : List GTok) (h : a.length ≤ 9223372036854775806) : emendref03_Same a b = some (decide (a = b)) := by
  unfold emendref03_Same
  by_cases hl : a.length = b.length
  · rw [if_neg (by simp [hl])]
    rw [loopS_same (f := emendref03_Same_b2 a b) a b id false h hl (fun k hk hk2 => by
      unfold emendref03_Same_b2
      rw [if_pos (decide_eq_true (by omega)), ix_at hk, Option.bind_some, ix_at hk2, Option.bind_some]
      by_cases hp : a[k] = b[k]
      · rw [if_neg (by simp [hp]), chkT (by omega), if_pos (show id a[k] = id b[k] from hp)]; rfl
      · rw [if_pos (by simp [hp]), if_neg (show ¬ id a[k] = id b[k] from hp)]) (by
      unfold emendref03_Same_b2
      rw [if_neg (by simp)]), Option.bind_some]
    simp only [List.map_id]
    by_cases e : a = b
    · rw [if_pos e, decide_eq_true e]; rfl
    · rw [if_neg e, decide_eq_false e]
  · rw [if_pos (by simp; omega), decide_eq_false (fun e => hl (by rw [e]))]
end Go.Sh
