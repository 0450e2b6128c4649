/- r16's statements: what they share: num, sample. -/
import Derived.Test.YtkjfbojmkkdgoaaX21
set_option linter.unusedVariables false
set_option linter.unusedSimpArgs false
namespace Go.Proofs.Ytkjfbojmkkdgoaa
open Go.RowKit
attribute [local go_sem ↓] Go.wp_at_zero Go.wp_at_succ
theorem num_c (e : Int) (w : World) : Calls Try.prog 18 #[.int .i64 e] w fun r w' => r = .returned (.int .i64 e) ∧ w' = w := by
  go_enter Try.func18, Try.ntmps18
  go_wp2
  go_ret
  exact ⟨rfl, rfl⟩
def insOf (l : List Ins) : Nat → Ins := fun i => l.getD i ⟨0, 0, 0, 0, 0⟩
def mainF (frame count : Int) : Nat → Fn := fun i => if i = 0 then ⟨⟨#[109, 97, 105, 110]⟩, frame, 0, count, 0⟩ else ⟨⟨#[]⟩, 0, 0, 0, 0⟩
theorem IL_blk {w : World} {G : Nat → Prop} {b n : Nat} {X : Nat → Ins} {cs : Array Value} (hB : Blk w b 54 cs) (hc : cs.toList = manyC insL X n) (hX : ∀ i, i < n → InsIn (X i)) (hn : n ≤ 9223372036854775807) (hG : G b) : IL w G (some ⟨b, 0, none⟩) n X := by
  refine ⟨hn, fun i hi => ?_⟩
  have k := fun r (hr : r < 5) => (hB.cell (0 + i * 5 + r)).trans (show cs[0 + i * 5 + r]? = (insL (X i))[r]? by rw [Nat.zero_add, ← Array.getElem?_toList, hc, manyC_get insL_len X n i r hi hr])
  exact ⟨hX i hi, b, 0, rfl, hG, hB.lt, k 0 (by decide), k 1 (by decide), k 2 (by decide), k 3 (by decide), k 4 (by decide)⟩
theorem FL_blk {w : World} {G : Nat → Prop} {b n : Nat} {X : Nat → Fn} {cs : Array Value} (hB : Blk w b 61 cs) (hc : cs.toList = manyC fnL X n) (hX : ∀ i, i < n → FnIn (X i) ∧ (X i).name.size ≤ 9223372036854775807) (hn : n ≤ 9223372036854775807) (hG : G b) : FL w G (some ⟨b, 0, none⟩) n X := by
  refine ⟨hn, fun i hi => ?_⟩
  have k := fun r (hr : r < 5) => (hB.cell (0 + i * 5 + r)).trans (show cs[0 + i * 5 + r]? = (fnL (X i))[r]? by rw [Nat.zero_add, ← Array.getElem?_toList, hc, manyC_get fnL_len X n i r hi hr])
  exact ⟨(hX i hi).1, (hX i hi).2, b, 0, rfl, hG, hB.lt, k 0 (by decide), k 1 (by decide), k 2 (by decide), k 3 (by decide), k 4 (by decide)⟩
def sampleL : List Ins := [⟨36, 0, 0, 0, 0⟩, ⟨32, 0, 0, 0, 1⟩, ⟨1, 1, 0, 0, 100⟩, ⟨6, 1, 1, 0, 0⟩, ⟨25, 1, 0, 0, 2⟩, ⟨24, 2, 0, 0, 2⟩, ⟨37, 2, 0, 0, 0⟩, ⟨27, 0, 0, 0, 0⟩]
theorem sample_in : ∀ i, i < 8 → InsIn (insOf sampleL i) := by
  intro i hi
  have h : i = 0 ∨ i = 1 ∨ i = 2 ∨ i = 3 ∨ i = 4 ∨ i = 5 ∨ i = 6 ∨ i = 7 := by omega
  rcases h with rfl | rfl | rfl | rfl | rfl | rfl | rfl | rfl <;> exact ⟨⟨by decide, by decide⟩, ⟨by decide, by decide⟩, ⟨by decide, by decide⟩, ⟨by decide, by decide⟩, ⟨by decide, by decide⟩⟩
theorem main_in (f c : Int) (hf : i64in f) (hc : i64in c) : ∀ i, i < 1 → FnIn (mainF f c i) ∧ (mainF f c i).name.size ≤ 9223372036854775807 := by
  intro i hi
  obtain rfl : i = 0 := by omega
  exact ⟨⟨hf, (⟨by decide, by decide⟩ : i64in 0), hc, (⟨by decide, by decide⟩ : i64in 0)⟩, (by decide : (4 : Nat) ≤ 9223372036854775807)⟩
theorem blk_at {w : World} {n : Nat} {t : TypeId} {cs : Array Value} (h : n = w.heap.size) : Blk (w.alloc (.cells cs t)) n t cs := h ▸ Blk.new w t cs
set_option maxRecDepth 100000 in
set_option maxHeartbeats 8000000 in
theorem sample_c (w : World) : Calls Try.prog 26 #[] w fun e w' => ∃ b f, e = .returned (.agg #[.slice (some ⟨b, 0, none⟩) 8 8, .slice (some ⟨f, 0, none⟩) 1 1, .int .i64 0]) ∧ IL w' (fun x => w.heap.size ≤ x ∧ x < w'.heap.size) (some ⟨b, 0, none⟩) 8 (insOf sampleL) ∧ FL w' (fun x => w.heap.size ≤ x ∧ x < w'.heap.size) (some ⟨f, 0, none⟩) 1 (mainF 3 8) ∧ Below w.heap.size w w' := by
  go_enter Try.func26, Try.ntmps26
  go_wp2_with fail
  refine bodyPost_ret (results_cell rfl (a := ⟨w.heap.size, 0, none⟩) rfl (run_loadVar_row _ w.heap.size 25 25 _ (0, 0) _ (((blk_at rfl).alloc _).alloc _) Try.underlying25 rfl (by kernel_rfl))) rfl ?_
  refine ⟨_, _, rfl, IL_blk ((blk_at (by simp)).alloc _) (by kernel_rfl) sample_in (by decide) ⟨?_, ?_⟩, FL_blk (blk_at (by simp)) (by kernel_rfl) (main_in 3 8 ⟨by decide, by decide⟩ ⟨by decide, by decide⟩) (by decide) ⟨?_, ?_⟩, ?_⟩
  · omega
  · simp
  · omega
  · simp
  · exact ((((Only.refl (fun _ => False) w).alloc _).alloc _).alloc _).toBelow (Nat.le_refl _) fun _ _ h => h
end Go.Proofs.Ytkjfbojmkkdgoaa
