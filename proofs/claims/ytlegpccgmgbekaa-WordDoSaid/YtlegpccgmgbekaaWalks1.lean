/- The walks of package word's functions over this seat's translation: each call gives the word of Plain. -/
import Derived.Test.YtlegpccgmgbekaaProg
import Derived.Test.YtlegpccgmgbekaaPlain
import Derived.WalkKit
import Derived.KernelRfl
import Derived.Deep.WholeRow
namespace Go.Proofs.Ytlegpccgmgbekaa
open Go.RowKit

theorem add_c (a b : Int) (w : World) : Calls Try.prog 14 #[.int .i64 a, .int .i64 b] w fun e w' => e = .returned (.int .i64 (wadd a b)) ∧ w = w' := by
  go_enter Try.func14, Try.ntmps14
  go_wp2
  go_ret
  exact ⟨rfl, rfl⟩
theorem mul_c (a b : Int) (w : World) : Calls Try.prog 15 #[.int .i64 a, .int .i64 b] w fun e w' => e = .returned (.int .i64 (wmul a b)) ∧ w = w' := by
  go_enter Try.func15, Try.ntmps15
  go_wp2
  go_ret
  exact ⟨rfl, rfl⟩
theorem sub_c (a b : Int) (w : World) : Calls Try.prog 16 #[.int .i64 a, .int .i64 b] w fun e w' => e = .returned (.int .i64 (wsub a b)) ∧ w = w' := by
  go_enter Try.func16, Try.ntmps16
  go_wp2
  go_ret
  exact ⟨rfl, rfl⟩
theorem neg_c (a : Int) (w : World) : Calls Try.prog 17 #[.int .i64 a] w fun e w' => e = .returned (.int .i64 (wneg a)) ∧ w = w' := by
  go_enter Try.func17, Try.ntmps17
  go_wp2
  go_ret
  exact ⟨rfl, rfl⟩
theorem and_c (a b : Int) (w : World) : Calls Try.prog 20 #[.int .i64 a, .int .i64 b] w fun e w' => e = .returned (.int .i64 (wand a b)) ∧ w = w' := by
  go_enter Try.func20, Try.ntmps20
  go_wp2
  go_ret
  exact ⟨rfl, rfl⟩
theorem or_c (a b : Int) (w : World) : Calls Try.prog 21 #[.int .i64 a, .int .i64 b] w fun e w' => e = .returned (.int .i64 (wor a b)) ∧ w = w' := by
  go_enter Try.func21, Try.ntmps21
  go_wp2
  go_ret
  exact ⟨rfl, rfl⟩
theorem xor_c (a b : Int) (w : World) : Calls Try.prog 22 #[.int .i64 a, .int .i64 b] w fun e w' => e = .returned (.int .i64 (wxor a b)) ∧ w = w' := by
  go_enter Try.func22, Try.ntmps22
  go_wp2
  go_ret
  exact ⟨rfl, rfl⟩
theorem inv_c (a : Int) (w : World) : Calls Try.prog 23 #[.int .i64 a] w fun e w' => e = .returned (.int .i64 (winv a)) ∧ w = w' := by
  go_enter Try.func23, Try.ntmps23
  go_wp2
  go_ret
  exact ⟨rfl, rfl⟩
theorem bic_c (a b : Int) (w : World) : Calls Try.prog 24 #[.int .i64 a, .int .i64 b] w fun e w' => e = .returned (.int .i64 (wbic a b)) ∧ w = w' := by
  go_enter Try.func24, Try.ntmps24
  go_wp2
  go_ret
  exact ⟨rfl, rfl⟩
theorem div_c (a b : Int) (w : World) : Calls Try.prog 18 #[.int .i64 a, .int .i64 b] w fun e w' => e = .returned (.int .i64 (wdiv a b)) ∧ w = w' := by
  by_cases h : b = 0
  · have H := Lib.hid (show Ending.returned (.int .i64 0) = Ending.returned (.int .i64 (wdiv a b)) by rw [wdiv, if_pos h]); have hb : (b == 0) = true := beq_iff_eq.2 h; clear h
    go_enter Try.func18, Try.ntmps18
    go_wp2
    go_ret
    exact ⟨H.out, rfl⟩
  · have H := Lib.hid (show Ending.returned (.int .i64 (wrap64 (a.tdiv b))) = Ending.returned (.int .i64 (wdiv a b)) by rw [wdiv, if_neg h]); have hb : (b == 0) = false := beq_eq_false_iff_ne.2 h
    go_enter Try.func18, Try.ntmps18
    go_wp2
    go_ret
    exact ⟨H.out, rfl⟩
theorem rem_c (a b : Int) (w : World) : Calls Try.prog 19 #[.int .i64 a, .int .i64 b] w fun e w' => e = .returned (.int .i64 (wrem a b)) ∧ w = w' := by
  by_cases h : b = 0
  · have H := Lib.hid (show Ending.returned (.int .i64 0) = Ending.returned (.int .i64 (wrem a b)) by rw [wrem, if_pos h]); have hb : (b == 0) = true := beq_iff_eq.2 h; clear h
    go_enter Try.func19, Try.ntmps19
    go_wp2
    go_ret
    exact ⟨H.out, rfl⟩
  · have H := Lib.hid (show Ending.returned (.int .i64 (a.tmod b)) = Ending.returned (.int .i64 (wrem a b)) by rw [wrem, if_neg h]); have hb : (b == 0) = false := beq_eq_false_iff_ne.2 h
    go_enter Try.func19, Try.ntmps19
    go_wp2
    go_ret
    exact ⟨H.out, rfl⟩
theorem shl_c (a b : Int) (w : World) : Calls Try.prog 25 #[.int .i64 a, .int .i64 b] w fun e w' => e = .returned (.int .i64 (wshl a b)) ∧ w = w' := by
  by_cases h : b < 0
  · have H := Lib.hid (show Ending.returned (.int .i64 0) = Ending.returned (.int .i64 (wshl a b)) by rw [wshl, if_pos h])
    go_enter Try.func25, Try.ntmps25
    go_wp2
    go_ret
    exact ⟨H.out, rfl⟩
  · have H := Lib.hid (show Ending.returned (.int .i64 (shlN a b)) = Ending.returned (.int .i64 (wshl a b)) by rw [wshl, if_neg h]); have hs := run_shlN a b (by omega)
    go_enter Try.func25, Try.ntmps25
    go_wp2
    go_ret
    exact ⟨H.out, rfl⟩
theorem shr_c (a b : Int) (w : World) : Calls Try.prog 26 #[.int .i64 a, .int .i64 b] w fun e w' => e = .returned (.int .i64 (wshr a b)) ∧ w = w' := by
  by_cases h : b < 0
  · have H := Lib.hid (show Ending.returned (.int .i64 0) = Ending.returned (.int .i64 (wshr a b)) by rw [wshr, if_pos h])
    go_enter Try.func26, Try.ntmps26
    go_wp2
    go_ret
    exact ⟨H.out, rfl⟩
  · have H := Lib.hid (show Ending.returned (.int .i64 (shrN a b)) = Ending.returned (.int .i64 (wshr a b)) by rw [wshr, if_neg h]); have hs := run_shrN a b (by omega)
    go_enter Try.func26, Try.ntmps26
    go_wp2
    go_ret
    exact ⟨H.out, rfl⟩
theorem truth_c (b : Bool) (w : World) : Calls Try.prog 48 #[.bool b] w fun e w' => e = .returned (.int .i64 (tr b)) ∧ w = w' := by
  cases b
  all_goals
    go_enter Try.func48, Try.ntmps48
    go_wp2
    go_ret
    exact ⟨rfl, rfl⟩
theorem rtruth_c (b : Bool) (w : World) : Calls Try.prog 46 #[.bool b] w fun e w' => e = .returned (.int .i64 (tr b)) ∧ w = w' := by
  cases b
  all_goals
    go_enter Try.func46, Try.ntmps46
    go_wp2
    go_ret
    exact ⟨rfl, rfl⟩
theorem eq_c (a b : Int) (w : World) : Calls Try.prog 47 #[.int .i64 a, .int .i64 b] w fun e w' => e = .returned (.int .i64 (tr (a == b))) ∧ w = w' := by
  go_enter Try.func47, Try.ntmps47
  go_wp2_with (go_at_call 48; refine (truth_c _ _).mono ?_; rintro e w' ⟨rfl, rfl⟩)
  go_ret
  exact ⟨rfl, rfl⟩
theorem ne_c (a b : Int) (w : World) : Calls Try.prog 49 #[.int .i64 a, .int .i64 b] w fun e w' => e = .returned (.int .i64 (tr (a != b))) ∧ w = w' := by
  go_enter Try.func49, Try.ntmps49
  go_wp2_with (go_at_call 48; refine (truth_c _ _).mono ?_; rintro e w' ⟨rfl, rfl⟩)
  go_ret
  exact ⟨rfl, rfl⟩
theorem lt_c (a b : Int) (w : World) : Calls Try.prog 50 #[.int .i64 a, .int .i64 b] w fun e w' => e = .returned (.int .i64 (tr (decide (a < b)))) ∧ w = w' := by
  go_enter Try.func50, Try.ntmps50
  go_wp2_with (go_at_call 48; refine (truth_c _ _).mono ?_; rintro e w' ⟨rfl, rfl⟩)
  go_ret
  exact ⟨rfl, rfl⟩
theorem le_c (a b : Int) (w : World) : Calls Try.prog 51 #[.int .i64 a, .int .i64 b] w fun e w' => e = .returned (.int .i64 (tr (decide (a ≤ b)))) ∧ w = w' := by
  go_enter Try.func51, Try.ntmps51
  go_wp2_with (go_at_call 48; refine (truth_c _ _).mono ?_; rintro e w' ⟨rfl, rfl⟩)
  go_ret
  exact ⟨rfl, rfl⟩
theorem negf_c (a b : Int) (w : World) : Calls Try.prog 52 #[.int .i64 a, .int .i64 b] w fun e w' => e = .returned (.int .i64 (wneg a)) ∧ w = w' := by
  go_enter Try.func52, Try.ntmps52
  go_wp2_with (go_at_call 17; refine (neg_c _ _).mono ?_; rintro e w' ⟨rfl, rfl⟩)
  go_ret
  exact ⟨rfl, rfl⟩
theorem invf_c (a b : Int) (w : World) : Calls Try.prog 53 #[.int .i64 a, .int .i64 b] w fun e w' => e = .returned (.int .i64 (winv a)) ∧ w = w' := by
  go_enter Try.func53, Try.ntmps53
  go_wp2_with (go_at_call 23; refine (inv_c _ _).mono ?_; rintro e w' ⟨rfl, rfl⟩)
  go_ret
  exact ⟨rfl, rfl⟩
theorem not_c (a b : Int) (w : World) : Calls Try.prog 54 #[.int .i64 a, .int .i64 b] w fun e w' => e = .returned (.int .i64 (wsub 1 a)) ∧ w = w' := by
  go_enter Try.func54, Try.ntmps54
  go_wp2
  go_ret
  exact ⟨rfl, rfl⟩
def opsA : Array Value := #[Value.func (Fn.func 14) #[] #[], Value.func (Fn.func 16) #[] #[], Value.func (Fn.func 15) #[] #[],
              Value.func (Fn.func 18) #[] #[], Value.func (Fn.func 19) #[] #[], Value.func (Fn.func 20) #[] #[],
              Value.func (Fn.func 21) #[] #[], Value.func (Fn.func 22) #[] #[], Value.func (Fn.func 24) #[] #[],
              Value.func (Fn.func 25) #[] #[], Value.func (Fn.func 26) #[] #[], Value.func (Fn.func 47) #[] #[],
              Value.func (Fn.func 49) #[] #[], Value.func (Fn.func 50) #[] #[], Value.func (Fn.func 51) #[] #[],
              Value.func (Fn.func 52) #[] #[], Value.func (Fn.func 53) #[] #[], Value.func (Fn.func 54) #[] #[]]
theorem info36 : (Try.prog.info? 36).map (·.size) = some 18 := by kernel_rfl
theorem opsA_one : opsA.all (·.oneCell') = true := by simp [opsA, Value.oneCell']
theorem ops_c (w : World) : Calls Try.prog 43 #[] w fun e w' => e = .returned (.agg opsA) ∧ Below w.heap.size w w' := by
  go_enter Try.func43, Try.ntmps43
  go_wp2_with (refine wpList_store_row rfl 36 (.tmp 0) (.tmp 1) rfl w.heap.size opsA rfl rfl 36 _ (heap_alloc_last w _) info36 rfl opsA_one ?_; rw [World.setRow_alloc_new])
  refine bodyPost_ret (v := .agg opsA) (results_cell_row (P := Try.prog) (fn := Try.f43) (p := 0) (ty := 36) Try.results43 _ _ w.heap.size 36 opsA _ _ rfl (heap_alloc_last w _) Try.underlying36 rfl info36) rfl ⟨rfl, ?_⟩
  exact (Below.refl _ _).alloc (Nat.le_refl _) _
theorem do_lo (op a b : Int) (w : World) (h : op < 2) : Calls Try.prog 28 #[.int .i64 op, .int .i64 a, .int .i64 b] w fun e w' => e = .returned (.tuple #[.int .i64 0, .bool false]) ∧ w = w' := by
  go_enter Try.func28, Try.ntmps28
  go_wp2
  go_ret2
  exact ⟨rfl, rfl⟩
theorem do_hi (op a b : Int) (w : World) (h : 19 < op) : Calls Try.prog 28 #[.int .i64 op, .int .i64 a, .int .i64 b] w fun e w' => e = .returned (.tuple #[.int .i64 0, .bool false]) ∧ w = w' := by
  have h2 : ¬ op < 2 := by omega
  go_enter Try.func28, Try.ntmps28
  go_wp2
  go_ret2
  exact ⟨rfl, rfl⟩
theorem do_2 (a b : Int) (w : World) : Calls Try.prog 28 #[.int .i64 2, .int .i64 a, .int .i64 b] w fun e w' => e = .returned (.tuple #[.int .i64 (wadd a b), .bool true]) ∧ Below w.heap.size w w' := by
  have hi : ∀ w, (Instr.index 36 (.agg opsA) (.int .i64 0)).run Try.prog w = .ok (.func (.func 14) #[] #[]) w := fun _ => by kernel_rfl
  go_enter Try.func28, Try.ntmps28
  go_wp2_with (first | (go_at_call 43; refine (ops_c _).mono ?_; rintro e w1 ⟨rfl, HB⟩) | (go_at_call 14; refine (add_c a b _).mono ?_; rintro e w' ⟨rfl, rfl⟩))
  go_ret2
  exact ⟨rfl, HB⟩
theorem do_3 (a b : Int) (w : World) : Calls Try.prog 28 #[.int .i64 3, .int .i64 a, .int .i64 b] w fun e w' => e = .returned (.tuple #[.int .i64 (wsub a b), .bool true]) ∧ Below w.heap.size w w' := by
  have hi : ∀ w, (Instr.index 36 (.agg opsA) (.int .i64 1)).run Try.prog w = .ok (.func (.func 16) #[] #[]) w := fun _ => by kernel_rfl
  go_enter Try.func28, Try.ntmps28
  go_wp2_with (first | (go_at_call 43; refine (ops_c _).mono ?_; rintro e w1 ⟨rfl, HB⟩) | (go_at_call 16; refine (sub_c a b _).mono ?_; rintro e w' ⟨rfl, rfl⟩))
  go_ret2
  exact ⟨rfl, HB⟩
theorem do_4 (a b : Int) (w : World) : Calls Try.prog 28 #[.int .i64 4, .int .i64 a, .int .i64 b] w fun e w' => e = .returned (.tuple #[.int .i64 (wmul a b), .bool true]) ∧ Below w.heap.size w w' := by
  have hi : ∀ w, (Instr.index 36 (.agg opsA) (.int .i64 2)).run Try.prog w = .ok (.func (.func 15) #[] #[]) w := fun _ => by kernel_rfl
  go_enter Try.func28, Try.ntmps28
  go_wp2_with (first | (go_at_call 43; refine (ops_c _).mono ?_; rintro e w1 ⟨rfl, HB⟩) | (go_at_call 15; refine (mul_c a b _).mono ?_; rintro e w' ⟨rfl, rfl⟩))
  go_ret2
  exact ⟨rfl, HB⟩
theorem do_5 (a b : Int) (w : World) : Calls Try.prog 28 #[.int .i64 5, .int .i64 a, .int .i64 b] w fun e w' => e = .returned (.tuple #[.int .i64 (wdiv a b), .bool true]) ∧ Below w.heap.size w w' := by
  have hi : ∀ w, (Instr.index 36 (.agg opsA) (.int .i64 3)).run Try.prog w = .ok (.func (.func 18) #[] #[]) w := fun _ => by kernel_rfl
  go_enter Try.func28, Try.ntmps28
  go_wp2_with (first | (go_at_call 43; refine (ops_c _).mono ?_; rintro e w1 ⟨rfl, HB⟩) | (go_at_call 18; refine (div_c a b _).mono ?_; rintro e w' ⟨rfl, rfl⟩))
  go_ret2
  exact ⟨rfl, HB⟩
theorem do_6 (a b : Int) (w : World) : Calls Try.prog 28 #[.int .i64 6, .int .i64 a, .int .i64 b] w fun e w' => e = .returned (.tuple #[.int .i64 (wrem a b), .bool true]) ∧ Below w.heap.size w w' := by
  have hi : ∀ w, (Instr.index 36 (.agg opsA) (.int .i64 4)).run Try.prog w = .ok (.func (.func 19) #[] #[]) w := fun _ => by kernel_rfl
  go_enter Try.func28, Try.ntmps28
  go_wp2_with (first | (go_at_call 43; refine (ops_c _).mono ?_; rintro e w1 ⟨rfl, HB⟩) | (go_at_call 19; refine (rem_c a b _).mono ?_; rintro e w' ⟨rfl, rfl⟩))
  go_ret2
  exact ⟨rfl, HB⟩
theorem do_7 (a b : Int) (w : World) : Calls Try.prog 28 #[.int .i64 7, .int .i64 a, .int .i64 b] w fun e w' => e = .returned (.tuple #[.int .i64 (wand a b), .bool true]) ∧ Below w.heap.size w w' := by
  have hi : ∀ w, (Instr.index 36 (.agg opsA) (.int .i64 5)).run Try.prog w = .ok (.func (.func 20) #[] #[]) w := fun _ => by kernel_rfl
  go_enter Try.func28, Try.ntmps28
  go_wp2_with (first | (go_at_call 43; refine (ops_c _).mono ?_; rintro e w1 ⟨rfl, HB⟩) | (go_at_call 20; refine (and_c a b _).mono ?_; rintro e w' ⟨rfl, rfl⟩))
  go_ret2
  exact ⟨rfl, HB⟩
theorem do_8 (a b : Int) (w : World) : Calls Try.prog 28 #[.int .i64 8, .int .i64 a, .int .i64 b] w fun e w' => e = .returned (.tuple #[.int .i64 (wor a b), .bool true]) ∧ Below w.heap.size w w' := by
  have hi : ∀ w, (Instr.index 36 (.agg opsA) (.int .i64 6)).run Try.prog w = .ok (.func (.func 21) #[] #[]) w := fun _ => by kernel_rfl
  go_enter Try.func28, Try.ntmps28
  go_wp2_with (first | (go_at_call 43; refine (ops_c _).mono ?_; rintro e w1 ⟨rfl, HB⟩) | (go_at_call 21; refine (or_c a b _).mono ?_; rintro e w' ⟨rfl, rfl⟩))
  go_ret2
  exact ⟨rfl, HB⟩
theorem do_9 (a b : Int) (w : World) : Calls Try.prog 28 #[.int .i64 9, .int .i64 a, .int .i64 b] w fun e w' => e = .returned (.tuple #[.int .i64 (wxor a b), .bool true]) ∧ Below w.heap.size w w' := by
  have hi : ∀ w, (Instr.index 36 (.agg opsA) (.int .i64 7)).run Try.prog w = .ok (.func (.func 22) #[] #[]) w := fun _ => by kernel_rfl
  go_enter Try.func28, Try.ntmps28
  go_wp2_with (first | (go_at_call 43; refine (ops_c _).mono ?_; rintro e w1 ⟨rfl, HB⟩) | (go_at_call 22; refine (xor_c a b _).mono ?_; rintro e w' ⟨rfl, rfl⟩))
  go_ret2
  exact ⟨rfl, HB⟩
theorem do_10 (a b : Int) (w : World) : Calls Try.prog 28 #[.int .i64 10, .int .i64 a, .int .i64 b] w fun e w' => e = .returned (.tuple #[.int .i64 (wbic a b), .bool true]) ∧ Below w.heap.size w w' := by
  have hi : ∀ w, (Instr.index 36 (.agg opsA) (.int .i64 8)).run Try.prog w = .ok (.func (.func 24) #[] #[]) w := fun _ => by kernel_rfl
  go_enter Try.func28, Try.ntmps28
  go_wp2_with (first | (go_at_call 43; refine (ops_c _).mono ?_; rintro e w1 ⟨rfl, HB⟩) | (go_at_call 24; refine (bic_c a b _).mono ?_; rintro e w' ⟨rfl, rfl⟩))
  go_ret2
  exact ⟨rfl, HB⟩
theorem do_11 (a b : Int) (w : World) : Calls Try.prog 28 #[.int .i64 11, .int .i64 a, .int .i64 b] w fun e w' => e = .returned (.tuple #[.int .i64 (wshl a b), .bool true]) ∧ Below w.heap.size w w' := by
  have hi : ∀ w, (Instr.index 36 (.agg opsA) (.int .i64 9)).run Try.prog w = .ok (.func (.func 25) #[] #[]) w := fun _ => by kernel_rfl
  go_enter Try.func28, Try.ntmps28
  go_wp2_with (first | (go_at_call 43; refine (ops_c _).mono ?_; rintro e w1 ⟨rfl, HB⟩) | (go_at_call 25; refine (shl_c a b _).mono ?_; rintro e w' ⟨rfl, rfl⟩))
  go_ret2
  exact ⟨rfl, HB⟩
theorem do_12 (a b : Int) (w : World) : Calls Try.prog 28 #[.int .i64 12, .int .i64 a, .int .i64 b] w fun e w' => e = .returned (.tuple #[.int .i64 (wshr a b), .bool true]) ∧ Below w.heap.size w w' := by
  have hi : ∀ w, (Instr.index 36 (.agg opsA) (.int .i64 10)).run Try.prog w = .ok (.func (.func 26) #[] #[]) w := fun _ => by kernel_rfl
  go_enter Try.func28, Try.ntmps28
  go_wp2_with (first | (go_at_call 43; refine (ops_c _).mono ?_; rintro e w1 ⟨rfl, HB⟩) | (go_at_call 26; refine (shr_c a b _).mono ?_; rintro e w' ⟨rfl, rfl⟩))
  go_ret2
  exact ⟨rfl, HB⟩
theorem do_13 (a b : Int) (w : World) : Calls Try.prog 28 #[.int .i64 13, .int .i64 a, .int .i64 b] w fun e w' => e = .returned (.tuple #[.int .i64 (tr (a == b)), .bool true]) ∧ Below w.heap.size w w' := by
  have hi : ∀ w, (Instr.index 36 (.agg opsA) (.int .i64 11)).run Try.prog w = .ok (.func (.func 47) #[] #[]) w := fun _ => by kernel_rfl
  go_enter Try.func28, Try.ntmps28
  go_wp2_with (first | (go_at_call 43; refine (ops_c _).mono ?_; rintro e w1 ⟨rfl, HB⟩) | (go_at_call 47; refine (eq_c a b _).mono ?_; rintro e w' ⟨rfl, rfl⟩))
  go_ret2
  exact ⟨rfl, HB⟩
theorem do_14 (a b : Int) (w : World) : Calls Try.prog 28 #[.int .i64 14, .int .i64 a, .int .i64 b] w fun e w' => e = .returned (.tuple #[.int .i64 (tr (a != b)), .bool true]) ∧ Below w.heap.size w w' := by
  have hi : ∀ w, (Instr.index 36 (.agg opsA) (.int .i64 12)).run Try.prog w = .ok (.func (.func 49) #[] #[]) w := fun _ => by kernel_rfl
  go_enter Try.func28, Try.ntmps28
  go_wp2_with (first | (go_at_call 43; refine (ops_c _).mono ?_; rintro e w1 ⟨rfl, HB⟩) | (go_at_call 49; refine (ne_c a b _).mono ?_; rintro e w' ⟨rfl, rfl⟩))
  go_ret2
  exact ⟨rfl, HB⟩
theorem do_15 (a b : Int) (w : World) : Calls Try.prog 28 #[.int .i64 15, .int .i64 a, .int .i64 b] w fun e w' => e = .returned (.tuple #[.int .i64 (tr (decide (a < b))), .bool true]) ∧ Below w.heap.size w w' := by
  have hi : ∀ w, (Instr.index 36 (.agg opsA) (.int .i64 13)).run Try.prog w = .ok (.func (.func 50) #[] #[]) w := fun _ => by kernel_rfl
  go_enter Try.func28, Try.ntmps28
  go_wp2_with (first | (go_at_call 43; refine (ops_c _).mono ?_; rintro e w1 ⟨rfl, HB⟩) | (go_at_call 50; refine (lt_c a b _).mono ?_; rintro e w' ⟨rfl, rfl⟩))
  go_ret2
  exact ⟨rfl, HB⟩
theorem do_16 (a b : Int) (w : World) : Calls Try.prog 28 #[.int .i64 16, .int .i64 a, .int .i64 b] w fun e w' => e = .returned (.tuple #[.int .i64 (tr (decide (a ≤ b))), .bool true]) ∧ Below w.heap.size w w' := by
  have hi : ∀ w, (Instr.index 36 (.agg opsA) (.int .i64 14)).run Try.prog w = .ok (.func (.func 51) #[] #[]) w := fun _ => by kernel_rfl
  go_enter Try.func28, Try.ntmps28
  go_wp2_with (first | (go_at_call 43; refine (ops_c _).mono ?_; rintro e w1 ⟨rfl, HB⟩) | (go_at_call 51; refine (le_c a b _).mono ?_; rintro e w' ⟨rfl, rfl⟩))
  go_ret2
  exact ⟨rfl, HB⟩
theorem do_17 (a b : Int) (w : World) : Calls Try.prog 28 #[.int .i64 17, .int .i64 a, .int .i64 b] w fun e w' => e = .returned (.tuple #[.int .i64 (wneg a), .bool true]) ∧ Below w.heap.size w w' := by
  have hi : ∀ w, (Instr.index 36 (.agg opsA) (.int .i64 15)).run Try.prog w = .ok (.func (.func 52) #[] #[]) w := fun _ => by kernel_rfl
  go_enter Try.func28, Try.ntmps28
  go_wp2_with (first | (go_at_call 43; refine (ops_c _).mono ?_; rintro e w1 ⟨rfl, HB⟩) | (go_at_call 52; refine (negf_c a b _).mono ?_; rintro e w' ⟨rfl, rfl⟩))
  go_ret2
  exact ⟨rfl, HB⟩
theorem do_18 (a b : Int) (w : World) : Calls Try.prog 28 #[.int .i64 18, .int .i64 a, .int .i64 b] w fun e w' => e = .returned (.tuple #[.int .i64 (winv a), .bool true]) ∧ Below w.heap.size w w' := by
  have hi : ∀ w, (Instr.index 36 (.agg opsA) (.int .i64 16)).run Try.prog w = .ok (.func (.func 53) #[] #[]) w := fun _ => by kernel_rfl
  go_enter Try.func28, Try.ntmps28
  go_wp2_with (first | (go_at_call 43; refine (ops_c _).mono ?_; rintro e w1 ⟨rfl, HB⟩) | (go_at_call 53; refine (invf_c a b _).mono ?_; rintro e w' ⟨rfl, rfl⟩))
  go_ret2
  exact ⟨rfl, HB⟩
theorem do_19 (a b : Int) (w : World) : Calls Try.prog 28 #[.int .i64 19, .int .i64 a, .int .i64 b] w fun e w' => e = .returned (.tuple #[.int .i64 (wsub 1 a), .bool true]) ∧ Below w.heap.size w w' := by
  have hi : ∀ w, (Instr.index 36 (.agg opsA) (.int .i64 17)).run Try.prog w = .ok (.func (.func 54) #[] #[]) w := fun _ => by kernel_rfl
  go_enter Try.func28, Try.ntmps28
  go_wp2_with (first | (go_at_call 43; refine (ops_c _).mono ?_; rintro e w1 ⟨rfl, HB⟩) | (go_at_call 54; refine (not_c a b _).mono ?_; rintro e w' ⟨rfl, rfl⟩))
  go_ret2
  exact ⟨rfl, HB⟩
/-- EVERY Do. -/
theorem do_c (op a b : Int) (w : World) : Calls Try.prog 28 #[.int .i64 op, .int .i64 a, .int .i64 b] w fun e w' => e = .returned (.tuple #[.int .i64 (wdo op a b), .bool (isOp op)]) ∧ Below w.heap.size w w' := by
  by_cases h1 : op < 2
  · refine (do_lo op a b w h1).mono fun e w' h => ?_
    obtain ⟨rfl, rfl⟩ := h
    exact ⟨by rw [wdo_none op a b (by omega), isOp_none op (by omega)], Below.refl _ _⟩
  by_cases h2 : 19 < op
  · refine (do_hi op a b w h2).mono fun e w' h => ?_
    obtain ⟨rfl, rfl⟩ := h
    exact ⟨by rw [wdo_none op a b (by omega), isOp_none op (by omega)], Below.refl _ _⟩
  have h3 : op = 2 ∨ op = 3 ∨ op = 4 ∨ op = 5 ∨ op = 6 ∨ op = 7 ∨ op = 8 ∨ op = 9 ∨ op = 10 ∨ op = 11 ∨ op = 12 ∨ op = 13 ∨ op = 14 ∨ op = 15 ∨ op = 16 ∨ op = 17 ∨ op = 18 ∨ op = 19 := by omega
  rcases h3 with rfl | rfl | rfl | rfl | rfl | rfl | rfl | rfl | rfl | rfl | rfl | rfl | rfl | rfl | rfl | rfl | rfl | rfl
  · exact do_2 a b w
  · exact do_3 a b w
  · exact do_4 a b w
  · exact do_5 a b w
  · exact do_6 a b w
  · exact do_7 a b w
  · exact do_8 a b w
  · exact do_9 a b w
  · exact do_10 a b w
  · exact do_11 a b w
  · exact do_12 a b w
  · exact do_13 a b w
  · exact do_14 a b w
  · exact do_15 a b w
  · exact do_16 a b w
  · exact do_17 a b w
  · exact do_18 a b w
  · exact do_19 a b w
end Go.Proofs.Ytlegpccgmgbekaa
