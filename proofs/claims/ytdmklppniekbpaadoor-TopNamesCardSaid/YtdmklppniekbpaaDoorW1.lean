/- TopNames: the walk. -/
import Derived.Test.YtdmklppniekbpaaDoorRows
import Derived.WalkKit
import Derived.ProofKit
import Derived.Deep.DrawnRows
set_option linter.unusedVariables false
set_option linter.unusedSimpArgs false
namespace Go.Proofs.YtdmklppniekbpaaDoor
open Go.RowKit
attribute [local go_sem ↓] Go.wp_at_zero Go.wp_at_succ
set_option maxRecDepth 100000
set_option maxHeartbeats 8000000
theorem errors_c (w : World) : Calls Tryd.prog 4 #[] w fun e w' => e = .returned (.bool true) ∧ w = w' := by
  go_enter Tryd.func4, Tryd.ntmps4
  go_wp2
  go_ret
  exact ⟨rfl, rfl⟩
theorem limits_c (w : World) : Calls Tryd.prog 6 #[] w fun e w' => e = .returned (.bool true) ∧ w = w' := by
  go_enter Tryd.func6, Tryd.ntmps6
  go_wp2
  go_ret
  exact ⟨rfl, rfl⟩
theorem small_c (w : World) : Calls Tryd.prog 12 #[.int .i64 7] w fun e w' => e = .returned (.string ⟨#[55]⟩) ∧ w = w' := by
  go_enter Tryd.func12, Tryd.ntmps12
  go_wp2
  go_ret
  exact ⟨rfl, rfl⟩
theorem format_c (w : World) : Calls Tryd.prog 11 #[.int .i64 7, .int .i64 10] w fun e w' => e = .returned (.string ⟨#[55]⟩) ∧ w = w' := by
  go_enter Tryd.func11, Tryd.ntmps11
  go_wp2_with (go_at_call 12; refine (small_c _).mono ?_; rintro e w1 ⟨rfl, rfl⟩)
  go_ret
  exact ⟨rfl, rfl⟩
theorem itoa_c (w : World) : Calls Tryd.prog 10 #[.int .i64 7] w fun e w' => e = .returned (.string ⟨#[55]⟩) ∧ w = w' := by
  go_enter Tryd.func10, Tryd.ntmps10
  go_wp2_with (go_at_call 11; refine (format_c _).mono ?_; rintro e w1 ⟨rfl, rfl⟩)
  go_ret
  exact ⟨rfl, rfl⟩
theorem itoa2_c (w : World) : Calls Tryd.prog 9 #[.int .i64 7] w fun e w' => e = .returned (.string ⟨#[55]⟩) ∧ w = w' := by
  go_enter Tryd.func9, Tryd.ntmps9
  go_wp2_with (go_at_call 10; refine (itoa_c _).mono ?_; rintro e w1 ⟨rfl, rfl⟩)
  go_ret
  exact ⟨rfl, rfl⟩
theorem error_c (w : World) : Calls Tryd.prog 7 #[.int .i64 7] w fun e w' => e = .returned (.string ⟨#[101, 114, 114, 111, 114, 32, 55]⟩) ∧ w = w' := by
  go_enter Tryd.func7, Tryd.ntmps7
  go_wp2_with (go_at_call 9; refine (itoa2_c _).mono ?_; rintro e w1 ⟨rfl, rfl⟩)
  go_ret
  exact ⟨rfl, rfl⟩
theorem kinds1_c (w : World) : Calls Tryd.prog 8 #[] w fun e w' => e = .returned (.bool true) ∧ w = w' := by
  go_enter Tryd.func8, Tryd.ntmps8
  go_wp2
  go_ret
  exact ⟨rfl, rfl⟩
theorem kinds_c (w : World) : Calls Tryd.prog 5 #[] w fun e w' => e = .returned (.bool true) ∧ w = w' := by
  go_enter Tryd.func5, Tryd.ntmps5
  go_wp2_with (go_at_call 8; refine (kinds1_c _).mono ?_; rintro e w1 ⟨rfl, rfl⟩)
  go_ret
  exact ⟨rfl, rfl⟩
theorem names_c (w : World) : Calls Tryd.prog 3 #[] w fun e w' => e = .returned (.bool true) ∧ w = w' := by
  go_enter Tryd.func3, Tryd.ntmps3
  go_wp2_with (first
    | (go_at_call 4; refine (errors_c _).mono ?_; rintro e w1 ⟨rfl, rfl⟩)
    | (go_at_call 5; refine (kinds_c _).mono ?_; rintro e w1 ⟨rfl, rfl⟩)
    | (go_at_call 6; refine (limits_c _).mono ?_; rintro e w1 ⟨rfl, rfl⟩)
    | (go_at_call 7; refine (error_c _).mono ?_; rintro e w1 ⟨rfl, rfl⟩))
  go_ret
  exact ⟨rfl, rfl⟩
end Go.Proofs.YtdmklppniekbpaaDoor
