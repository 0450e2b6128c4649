/- r16's statements: code of one function; the sample's run. -/
import Derived.Test.YtkjfbojmkkdgoaaL1
set_option linter.unusedVariables false
set_option linter.unusedSimpArgs false
namespace Go.Proofs.Ytkjfbojmkkdgoaa
open Go.RowKit
theorem main_name : NameOk ⟨#[109, 97, 105, 110]⟩ := by
  refine ⟨by decide, by decide, by kernel_rfl, fun i hi => ?_⟩
  have h : i = 0 ∨ i = 1 ∨ i = 2 ∨ i = 3 := by have h2 : i < 4 := hi; omega
  rcases h with rfl | rfl | rfl | rfl <;> (show charOk _ _ = true; kernel_rfl)
theorem code_one (l : List Ins) (frame : Int) (h2 : 2 ≤ frame) (h3 : frame ≤ 1099511627776) (hl : 1 ≤ l.length) (hok : ∀ j, j < l.length → insOk 1 (mainF frame l.length 0) (insOf l j) = true) (hlast : lastOk (insOf l (l.length - 1)).op = true) : CodeOk l.length (insOf l) 1 (mainF frame l.length) 0 := by
  refine ⟨fun k hk => ?_, ?_, by decide, by decide, rfl⟩
  · obtain rfl : k = 0 := by omega
    refine ⟨rfl, by show (1 : Int) ≤ (l.length : Int); omega, by show (l.length : Int) ≤ (l.length : Int) - 0; omega, fun j hj => by omega, main_name, h2, h3, (by decide : (0 : Int) ≤ 0), (by decide : (0 : Int) ≤ 8), fun j hj => ?_, ?_⟩
    · have hj2 : j < l.length := by have h4 : j < ((l.length : Nat) : Int).toNat := hj; omega
      have := hok j hj2
      rw [show (firstOf (mainF frame (l.length : Int)) 0).toNat + j = j by simp [firstOf]]
      exact this
    · rw [show (firstOf (mainF frame (l.length : Int)) 0).toNat + ((mainF frame (l.length : Int) 0).count.toNat - 1) = l.length - 1 by simp [firstOf, mainF]]
      exact hlast
  · show (0 : Int) + (l.length : Int) = (l.length : Int)
    omega
def sampleK (m : Int) (sl hl : Int) : MK := { ni := 8, X := insOf sampleL, nf := 1, Fs := mainF 3 8, mn := m, sl := sl, hl := hl }
theorem sample_ok : CodeOk 8 (insOf sampleL) 1 (mainF 3 8) 0 := by
  refine code_one sampleL 3 (by decide) (by decide) (by decide) (fun j hj => ?_) (by kernel_rfl)
  have h : j = 0 ∨ j = 1 ∨ j = 2 ∨ j = 3 ∨ j = 4 ∨ j = 5 ∨ j = 6 ∨ j = 7 := by have h2 : j < 8 := hj; omega
  rcases h with rfl | rfl | rfl | rfl | rfl | rfl | rfl | rfl <;> (show insOk _ _ _ = true; kernel_rfl)
theorem sample_no (m : Int) (hm : ¬ m = 0) : ¬ CodeOk 8 (insOf sampleL) 1 (mainF 3 8) m := fun h => by
  have h1 := h.2.2.1
  have h2 := h.2.2.2.1
  omega
theorem sample_run : (runN (sampleK 0 3 0) 100 (newQ (sampleK 0 3 0) [7])).fin = 1 ∧ (runN (sampleK 0 3 0) 100 (newQ (sampleK 0 3 0) [7])).steps = 8 ∧ (runN (sampleK 0 3 0) 100 (newQ (sampleK 0 3 0) [7])).ev = [(1, 14)] := ⟨by kernel_rfl, by kernel_rfl, by kernel_rfl⟩
end Go.Proofs.Ytkjfbojmkkdgoaa
