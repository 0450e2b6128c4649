/- r16's uses, field: walks. -/
import Derived.Test.YtafhjpehkfcmjaaPlain
import Derived.Test.YtafhjpehkfcmjaaChecked
import Derived.Deep.RegionLaw
import Derived.Deep.RegionHeld3
import Derived.Deep.DrawnRows
import Derived.Deep.QuietTactic
import Derived.WalkKit
import Derived.BigQuiet
import Derived.KernelRfl
import Derived.Lib.Hide
import Derived.Deep.DeepMust
set_option linter.unusedVariables false
set_option linter.unusedSimpArgs false
namespace Go.Proofs.Ytafhjpehkfcmjaa
open Go.RowKit
attribute [local go_sem ↓] Go.wp_at_zero Go.wp_at_succ
set_option maxRecDepth 100000 in
set_option maxHeartbeats 4000000 in
theorem uses_c (op : Int) (hop : i64in op) (w : World) : Calls Try.prog 46 #[.int .i64 op] w fun e w' => e = .returned (.tuple #[.int .i64 (usesOf op).1, .bool (usesOf op).2]) ∧ w = w' := by
  obtain ⟨h1, h2⟩ := hop
  go_enter Try.func46, Try.ntmps46
  go_wp2
  all_goals go_ret2
  all_goals exact ⟨by first | (simp [usesOf, *]; done) | (simp [usesOf, *]; omega), rfl⟩
set_option maxRecDepth 100000 in
set_option maxHeartbeats 4000000 in
theorem shape_c (op : Int) (hop : i64in op) (w : World) : Calls Try.prog 27 #[.int .i64 op] w fun e w' => e = .returned (.tuple #[.int .i64 (shapeOf op).1, .bool (shapeOf op).2.1, .bool (shapeOf op).2.2]) ∧ w = w' := by
  obtain ⟨h1, h2⟩ := hop
  go_enter Try.func27, Try.ntmps27
  go_wp2
  all_goals go_ret3
  all_goals exact ⟨by first | (simp [shapeOf, *]; done) | (simp [shapeOf, *]; omega) | (simp [shapeOf, show ¬ (3 ≤ op) by omega, *]), rfl⟩
set_option maxRecDepth 100000 in
set_option maxHeartbeats 4000000 in
theorem field_c (n : Int) (hn : i64in n) (u : Bool) (w : World) : Calls Try.prog 47 #[.int .i64 n, .bool u] w fun e w' => e = .returned (.bool (fieldOk n u)) ∧ w = w' := by
  obtain ⟨h1, h2⟩ := hn
  cases h0 : (n == 0) <;> cases u
  all_goals go_enter Try.func47, Try.ntmps47
  all_goals go_wp2
  all_goals go_ret
  all_goals exact ⟨by first | (simp [fieldOk, *]; done) | (simp [fieldOk, *]; omega), rfl⟩
end Go.Proofs.Ytafhjpehkfcmjaa
