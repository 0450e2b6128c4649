/- the document's names: walks. -/
import Derived.Test.YtafhjpehkfcmjaaW4
import Derived.Deep.WholeRow
set_option linter.unusedVariables false
set_option linter.unusedSimpArgs false
namespace Go.Proofs.Ytafhjpehkfcmjaa
open Go.RowKit
attribute [local go_sem ↓] Go.wp_at_zero Go.wp_at_succ
set_option maxRecDepth 100000 in
set_option maxHeartbeats 4000000 in
theorem digit_c (x : Nat) (hx : x < 256) (w : World) : Calls Try.prog 49 #[.int .u8 (x : Int)] w fun e w' => e = .returned (.bool (digit x)) ∧ w' = w := by
  go_enter Try.func49, Try.ntmps49
  go_wp2
  all_goals go_ret
  all_goals exact ⟨congrArg (fun b => Ending.returned (Value.bool b)) (by unfold digit; rw [Bool.eq_iff_iff]; simp only [Bool.or_eq_true, Bool.and_eq_true, beq_iff_eq, decide_eq_true_eq, Bool.false_eq_true, reduceCtorEq, true_iff, false_iff]; omega), rfl⟩
set_option maxRecDepth 100000 in
set_option maxHeartbeats 4000000 in
theorem letter_c (x : Nat) (hx : x < 256) (w : World) : Calls Try.prog 51 #[.int .u8 (x : Int)] w fun e w' => e = .returned (.bool (letter x)) ∧ w' = w := by
  rcases (show x = 95 ∨ x < 65 ∨ (65 ≤ x ∧ x ≤ 90) ∨ (91 ≤ x ∧ x ≤ 94) ∨ x = 96 ∨ (97 ≤ x ∧ x ≤ 122) ∨ 122 < x by omega) with h | h | h | h | h | h | h
  · subst h
    go_enter Try.func51, Try.ntmps51
    go_wp2
    all_goals go_ret
    all_goals exact ⟨rfl, rfl⟩
  all_goals
    have hne : ((x : Int) == 95) = false := beq_eq_false_iff_ne.2 (by omega)
    have hv : letter x = true ∨ letter x = false := by cases letter x <;> simp
    go_enter Try.func51, Try.ntmps51
    go_wp2
    all_goals go_ret
    all_goals refine ⟨congrArg (fun b => Ending.returned (Value.bool b)) ?_, rfl⟩
    all_goals (unfold letter; rw [Bool.eq_iff_iff]; simp only [Bool.or_eq_true, Bool.and_eq_true, beq_iff_eq, decide_eq_true_eq, Bool.false_eq_true, reduceCtorEq, true_iff, false_iff]; omega)
def wB (i : Nat) : ByteArray := ⟨(wordsL.getD i []).toArray⟩
def wordsV : Array Value := #[.string ⟨#[102, 117, 110, 99]⟩, .string ⟨#[118, 97, 114]⟩, .string ⟨#[105, 102]⟩, .string ⟨#[101, 108, 115, 101]⟩, .string ⟨#[102, 111, 114]⟩, .string ⟨#[114, 101, 116, 117, 114, 110]⟩, .string ⟨#[98, 114, 101, 97, 107]⟩, .string ⟨#[99, 111, 110, 116, 105, 110, 117, 101]⟩, .string ⟨#[112, 114, 105, 110, 116]⟩, .string ⟨#[112, 97, 110, 105, 99]⟩, .string ⟨#[105, 110, 112, 117, 116]⟩, .string ⟨#[108, 101, 110]⟩, .string ⟨#[109, 97, 107, 101]⟩, .string ⟨#[105, 110, 116]⟩, .string ⟨#[98, 111, 111, 108]⟩, .string ⟨#[116, 114, 117, 101]⟩, .string ⟨#[102, 97, 108, 115, 101]⟩, .string ⟨#[110, 105, 108]⟩]
theorem results_cell {P : Program} {fn : Func} {t : Tmp} {ty : TypeId} (h : fn.results = #[.cell t ty]) {tmps : Array Value} {a : Addr} (ht : tmps[t]?.getD undef = .pointer (some a)) {w : World} {v : Value} (hv : (loadVar ty a).run P w = .ok v w) : (results fn tmps).run P w = .ok v w := by
  simp [results, h, ht, asAddr, hv]
set_option maxRecDepth 100000 in
set_option maxHeartbeats 4000000 in
theorem words_c (w : World) : Calls Try.prog 53 #[] w fun e w' => e = .returned (.agg wordsV) ∧ Below w.heap.size w w' := by
  go_enter Try.func53, Try.ntmps53
  go_wp2_with fail
  refine bodyPost_ret (results_cell rfl (a := ⟨w.heap.size, 0, none⟩) rfl (run_loadVar_new w 101 wordsV 18 9 Try.underlying101 (by kernel_rfl))) rfl ?_
  exact ⟨rfl, ba (Below.refl _ _) _⟩
end Go.Proofs.Ytafhjpehkfcmjaa
