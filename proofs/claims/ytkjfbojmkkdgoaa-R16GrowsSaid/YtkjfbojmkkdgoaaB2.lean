/- The walks of package word's functions over this seat's translation: each call gives the word of Plain. -/
import Derived.Test.YtkjfbojmkkdgoaaProg
import Derived.Test.YtkjfbojmkkdgoaaB1
import Derived.WalkKit
import Derived.KernelRfl
import Derived.Deep.WholeRow
namespace Go.Proofs.Ytkjfbojmkkdgoaa
open Go.RowKit

theorem add_c (a b : Int) (w : World) : Calls Try.prog 77 #[.int .i64 a, .int .i64 b] w fun e w' => e = .returned (.int .i64 (wadd a b)) ∧ w = w' := by
  go_enter Try.func77, Try.ntmps77
  go_wp2
  go_ret
  exact ⟨rfl, rfl⟩
theorem mul_c (a b : Int) (w : World) : Calls Try.prog 79 #[.int .i64 a, .int .i64 b] w fun e w' => e = .returned (.int .i64 (wmul a b)) ∧ w = w' := by
  go_enter Try.func79, Try.ntmps79
  go_wp2
  go_ret
  exact ⟨rfl, rfl⟩
theorem sub_c (a b : Int) (w : World) : Calls Try.prog 78 #[.int .i64 a, .int .i64 b] w fun e w' => e = .returned (.int .i64 (wsub a b)) ∧ w = w' := by
  go_enter Try.func78, Try.ntmps78
  go_wp2
  go_ret
  exact ⟨rfl, rfl⟩
theorem neg_c (a : Int) (w : World) : Calls Try.prog 94 #[.int .i64 a] w fun e w' => e = .returned (.int .i64 (wneg a)) ∧ w = w' := by
  go_enter Try.func94, Try.ntmps94
  go_wp2
  go_ret
  exact ⟨rfl, rfl⟩
theorem and_c (a b : Int) (w : World) : Calls Try.prog 82 #[.int .i64 a, .int .i64 b] w fun e w' => e = .returned (.int .i64 (wand a b)) ∧ w = w' := by
  go_enter Try.func82, Try.ntmps82
  go_wp2
  go_ret
  exact ⟨rfl, rfl⟩
theorem or_c (a b : Int) (w : World) : Calls Try.prog 83 #[.int .i64 a, .int .i64 b] w fun e w' => e = .returned (.int .i64 (wor a b)) ∧ w = w' := by
  go_enter Try.func83, Try.ntmps83
  go_wp2
  go_ret
  exact ⟨rfl, rfl⟩
theorem xor_c (a b : Int) (w : World) : Calls Try.prog 84 #[.int .i64 a, .int .i64 b] w fun e w' => e = .returned (.int .i64 (wxor a b)) ∧ w = w' := by
  go_enter Try.func84, Try.ntmps84
  go_wp2
  go_ret
  exact ⟨rfl, rfl⟩
theorem inv_c (a : Int) (w : World) : Calls Try.prog 96 #[.int .i64 a] w fun e w' => e = .returned (.int .i64 (winv a)) ∧ w = w' := by
  go_enter Try.func96, Try.ntmps96
  go_wp2
  go_ret
  exact ⟨rfl, rfl⟩
theorem bic_c (a b : Int) (w : World) : Calls Try.prog 85 #[.int .i64 a, .int .i64 b] w fun e w' => e = .returned (.int .i64 (wbic a b)) ∧ w = w' := by
  go_enter Try.func85, Try.ntmps85
  go_wp2
  go_ret
  exact ⟨rfl, rfl⟩
theorem div_c (a b : Int) (w : World) : Calls Try.prog 80 #[.int .i64 a, .int .i64 b] w fun e w' => e = .returned (.int .i64 (wdiv a b)) ∧ w = w' := by
  by_cases h : b = 0
  · have H := Lib.hid (show Ending.returned (.int .i64 0) = Ending.returned (.int .i64 (wdiv a b)) by rw [wdiv, if_pos h]); have hb : (b == 0) = true := beq_iff_eq.2 h; clear h
    go_enter Try.func80, Try.ntmps80
    go_wp2
    go_ret
    exact ⟨H.out, rfl⟩
  · have H := Lib.hid (show Ending.returned (.int .i64 (wrap64 (a.tdiv b))) = Ending.returned (.int .i64 (wdiv a b)) by rw [wdiv, if_neg h]); have hb : (b == 0) = false := beq_eq_false_iff_ne.2 h
    go_enter Try.func80, Try.ntmps80
    go_wp2
    go_ret
    exact ⟨H.out, rfl⟩
theorem rem_c (a b : Int) (w : World) : Calls Try.prog 81 #[.int .i64 a, .int .i64 b] w fun e w' => e = .returned (.int .i64 (wrem a b)) ∧ w = w' := by
  by_cases h : b = 0
  · have H := Lib.hid (show Ending.returned (.int .i64 0) = Ending.returned (.int .i64 (wrem a b)) by rw [wrem, if_pos h]); have hb : (b == 0) = true := beq_iff_eq.2 h; clear h
    go_enter Try.func81, Try.ntmps81
    go_wp2
    go_ret
    exact ⟨H.out, rfl⟩
  · have H := Lib.hid (show Ending.returned (.int .i64 (a.tmod b)) = Ending.returned (.int .i64 (wrem a b)) by rw [wrem, if_neg h]); have hb : (b == 0) = false := beq_eq_false_iff_ne.2 h
    go_enter Try.func81, Try.ntmps81
    go_wp2
    go_ret
    exact ⟨H.out, rfl⟩
theorem shl_c (a b : Int) (w : World) : Calls Try.prog 86 #[.int .i64 a, .int .i64 b] w fun e w' => e = .returned (.int .i64 (wshl a b)) ∧ w = w' := by
  by_cases h : b < 0
  · have H := Lib.hid (show Ending.returned (.int .i64 0) = Ending.returned (.int .i64 (wshl a b)) by rw [wshl, if_pos h])
    go_enter Try.func86, Try.ntmps86
    go_wp2
    go_ret
    exact ⟨H.out, rfl⟩
  · have H := Lib.hid (show Ending.returned (.int .i64 (shlN a b)) = Ending.returned (.int .i64 (wshl a b)) by rw [wshl, if_neg h]); have hs := run_shlN a b (by omega)
    go_enter Try.func86, Try.ntmps86
    go_wp2
    go_ret
    exact ⟨H.out, rfl⟩
theorem shr_c (a b : Int) (w : World) : Calls Try.prog 87 #[.int .i64 a, .int .i64 b] w fun e w' => e = .returned (.int .i64 (wshr a b)) ∧ w = w' := by
  by_cases h : b < 0
  · have H := Lib.hid (show Ending.returned (.int .i64 0) = Ending.returned (.int .i64 (wshr a b)) by rw [wshr, if_pos h])
    go_enter Try.func87, Try.ntmps87
    go_wp2
    go_ret
    exact ⟨H.out, rfl⟩
  · have H := Lib.hid (show Ending.returned (.int .i64 (shrN a b)) = Ending.returned (.int .i64 (wshr a b)) by rw [wshr, if_neg h]); have hs := run_shrN a b (by omega)
    go_enter Try.func87, Try.ntmps87
    go_wp2
    go_ret
    exact ⟨H.out, rfl⟩
theorem truth_c (b : Bool) (w : World) : Calls Try.prog 89 #[.bool b] w fun e w' => e = .returned (.int .i64 (tr b)) ∧ w = w' := by
  cases b
  all_goals
    go_enter Try.func89, Try.ntmps89
    go_wp2
    go_ret
    exact ⟨rfl, rfl⟩
theorem eq_c (a b : Int) (w : World) : Calls Try.prog 88 #[.int .i64 a, .int .i64 b] w fun e w' => e = .returned (.int .i64 (tr (a == b))) ∧ w = w' := by
  go_enter Try.func88, Try.ntmps88
  go_wp2_with (go_at_call 89; refine (truth_c _ _).mono ?_; rintro e w' ⟨rfl, rfl⟩)
  go_ret
  exact ⟨rfl, rfl⟩
theorem ne_c (a b : Int) (w : World) : Calls Try.prog 90 #[.int .i64 a, .int .i64 b] w fun e w' => e = .returned (.int .i64 (tr (a != b))) ∧ w = w' := by
  go_enter Try.func90, Try.ntmps90
  go_wp2_with (go_at_call 89; refine (truth_c _ _).mono ?_; rintro e w' ⟨rfl, rfl⟩)
  go_ret
  exact ⟨rfl, rfl⟩
theorem lt_c (a b : Int) (w : World) : Calls Try.prog 91 #[.int .i64 a, .int .i64 b] w fun e w' => e = .returned (.int .i64 (tr (decide (a < b)))) ∧ w = w' := by
  go_enter Try.func91, Try.ntmps91
  go_wp2_with (go_at_call 89; refine (truth_c _ _).mono ?_; rintro e w' ⟨rfl, rfl⟩)
  go_ret
  exact ⟨rfl, rfl⟩
theorem le_c (a b : Int) (w : World) : Calls Try.prog 92 #[.int .i64 a, .int .i64 b] w fun e w' => e = .returned (.int .i64 (tr (decide (a ≤ b)))) ∧ w = w' := by
  go_enter Try.func92, Try.ntmps92
  go_wp2_with (go_at_call 89; refine (truth_c _ _).mono ?_; rintro e w' ⟨rfl, rfl⟩)
  go_ret
  exact ⟨rfl, rfl⟩
theorem negf_c (a b : Int) (w : World) : Calls Try.prog 93 #[.int .i64 a, .int .i64 b] w fun e w' => e = .returned (.int .i64 (wneg a)) ∧ w = w' := by
  go_enter Try.func93, Try.ntmps93
  go_wp2_with (go_at_call 94; refine (neg_c _ _).mono ?_; rintro e w' ⟨rfl, rfl⟩)
  go_ret
  exact ⟨rfl, rfl⟩
theorem invf_c (a b : Int) (w : World) : Calls Try.prog 95 #[.int .i64 a, .int .i64 b] w fun e w' => e = .returned (.int .i64 (winv a)) ∧ w = w' := by
  go_enter Try.func95, Try.ntmps95
  go_wp2_with (go_at_call 96; refine (inv_c _ _).mono ?_; rintro e w' ⟨rfl, rfl⟩)
  go_ret
  exact ⟨rfl, rfl⟩
theorem not_c (a b : Int) (w : World) : Calls Try.prog 97 #[.int .i64 a, .int .i64 b] w fun e w' => e = .returned (.int .i64 (wsub 1 a)) ∧ w = w' := by
  go_enter Try.func97, Try.ntmps97
  go_wp2
  go_ret
  exact ⟨rfl, rfl⟩
def opsA : Array Value := #[Value.func (Fn.func 77) #[] #[], Value.func (Fn.func 78) #[] #[], Value.func (Fn.func 79) #[] #[],
              Value.func (Fn.func 80) #[] #[], Value.func (Fn.func 81) #[] #[], Value.func (Fn.func 82) #[] #[],
              Value.func (Fn.func 83) #[] #[], Value.func (Fn.func 84) #[] #[], Value.func (Fn.func 85) #[] #[],
              Value.func (Fn.func 86) #[] #[], Value.func (Fn.func 87) #[] #[], Value.func (Fn.func 88) #[] #[],
              Value.func (Fn.func 90) #[] #[], Value.func (Fn.func 91) #[] #[], Value.func (Fn.func 92) #[] #[],
              Value.func (Fn.func 93) #[] #[], Value.func (Fn.func 95) #[] #[], Value.func (Fn.func 97) #[] #[]]
theorem info36 : (Try.prog.info? 94).map (·.size) = some 18 := by kernel_rfl
theorem opsA_one : opsA.all (·.oneCell') = true := by simp [opsA, Value.oneCell']
theorem ops_c (w : World) : Calls Try.prog 41 #[] w fun e w' => e = .returned (.agg opsA) ∧ Below w.heap.size w w' := by
  go_enter Try.func41, Try.ntmps41
  go_wp2_with (refine wpList_store_row rfl 94 (.tmp 0) (.tmp 1) rfl w.heap.size opsA rfl rfl 94 _ (heap_alloc_last w _) info36 rfl opsA_one ?_; rw [World.setRow_alloc_new])
  refine bodyPost_ret (v := .agg opsA) (results_cell_row (P := Try.prog) (fn := Try.f41) (p := 0) (ty := 94) Try.results41 _ _ w.heap.size 94 opsA _ _ rfl (heap_alloc_last w _) Try.underlying94 rfl info36) rfl ⟨rfl, ?_⟩
  exact (Below.refl _ _).alloc (Nat.le_refl _) _
theorem do_lo (op a b : Int) (w : World) (h : op < 2) : Calls Try.prog 25 #[.int .i64 op, .int .i64 a, .int .i64 b] w fun e w' => e = .returned (.tuple #[.int .i64 0, .bool false]) ∧ w = w' := by
  go_enter Try.func25, Try.ntmps25
  go_wp2
  go_ret2
  exact ⟨rfl, rfl⟩
theorem do_hi (op a b : Int) (w : World) (h : 19 < op) : Calls Try.prog 25 #[.int .i64 op, .int .i64 a, .int .i64 b] w fun e w' => e = .returned (.tuple #[.int .i64 0, .bool false]) ∧ w = w' := by
  have h2 : ¬ op < 2 := by omega
  go_enter Try.func25, Try.ntmps25
  go_wp2
  go_ret2
  exact ⟨rfl, rfl⟩
theorem do_2 (a b : Int) (w : World) : Calls Try.prog 25 #[.int .i64 2, .int .i64 a, .int .i64 b] w fun e w' => e = .returned (.tuple #[.int .i64 (wadd a b), .bool true]) ∧ Below w.heap.size w w' := by
  have hi : ∀ w, (Instr.index 94 (.agg opsA) (.int .i64 0)).run Try.prog w = .ok (.func (.func 77) #[] #[]) w := fun _ => by kernel_rfl
  go_enter Try.func25, Try.ntmps25
  go_wp2_with (first | (go_at_call 41; refine (ops_c _).mono ?_; rintro e w1 ⟨rfl, HB⟩) | (go_at_call 77; refine (add_c a b _).mono ?_; rintro e w' ⟨rfl, rfl⟩))
  go_ret2
  exact ⟨rfl, HB⟩
theorem do_3 (a b : Int) (w : World) : Calls Try.prog 25 #[.int .i64 3, .int .i64 a, .int .i64 b] w fun e w' => e = .returned (.tuple #[.int .i64 (wsub a b), .bool true]) ∧ Below w.heap.size w w' := by
  have hi : ∀ w, (Instr.index 94 (.agg opsA) (.int .i64 1)).run Try.prog w = .ok (.func (.func 78) #[] #[]) w := fun _ => by kernel_rfl
  go_enter Try.func25, Try.ntmps25
  go_wp2_with (first | (go_at_call 41; refine (ops_c _).mono ?_; rintro e w1 ⟨rfl, HB⟩) | (go_at_call 78; refine (sub_c a b _).mono ?_; rintro e w' ⟨rfl, rfl⟩))
  go_ret2
  exact ⟨rfl, HB⟩
theorem do_4 (a b : Int) (w : World) : Calls Try.prog 25 #[.int .i64 4, .int .i64 a, .int .i64 b] w fun e w' => e = .returned (.tuple #[.int .i64 (wmul a b), .bool true]) ∧ Below w.heap.size w w' := by
  have hi : ∀ w, (Instr.index 94 (.agg opsA) (.int .i64 2)).run Try.prog w = .ok (.func (.func 79) #[] #[]) w := fun _ => by kernel_rfl
  go_enter Try.func25, Try.ntmps25
  go_wp2_with (first | (go_at_call 41; refine (ops_c _).mono ?_; rintro e w1 ⟨rfl, HB⟩) | (go_at_call 79; refine (mul_c a b _).mono ?_; rintro e w' ⟨rfl, rfl⟩))
  go_ret2
  exact ⟨rfl, HB⟩
theorem do_5 (a b : Int) (w : World) : Calls Try.prog 25 #[.int .i64 5, .int .i64 a, .int .i64 b] w fun e w' => e = .returned (.tuple #[.int .i64 (wdiv a b), .bool true]) ∧ Below w.heap.size w w' := by
  have hi : ∀ w, (Instr.index 94 (.agg opsA) (.int .i64 3)).run Try.prog w = .ok (.func (.func 80) #[] #[]) w := fun _ => by kernel_rfl
  go_enter Try.func25, Try.ntmps25
  go_wp2_with (first | (go_at_call 41; refine (ops_c _).mono ?_; rintro e w1 ⟨rfl, HB⟩) | (go_at_call 80; refine (div_c a b _).mono ?_; rintro e w' ⟨rfl, rfl⟩))
  go_ret2
  exact ⟨rfl, HB⟩
theorem do_6 (a b : Int) (w : World) : Calls Try.prog 25 #[.int .i64 6, .int .i64 a, .int .i64 b] w fun e w' => e = .returned (.tuple #[.int .i64 (wrem a b), .bool true]) ∧ Below w.heap.size w w' := by
  have hi : ∀ w, (Instr.index 94 (.agg opsA) (.int .i64 4)).run Try.prog w = .ok (.func (.func 81) #[] #[]) w := fun _ => by kernel_rfl
  go_enter Try.func25, Try.ntmps25
  go_wp2_with (first | (go_at_call 41; refine (ops_c _).mono ?_; rintro e w1 ⟨rfl, HB⟩) | (go_at_call 81; refine (rem_c a b _).mono ?_; rintro e w' ⟨rfl, rfl⟩))
  go_ret2
  exact ⟨rfl, HB⟩
theorem do_7 (a b : Int) (w : World) : Calls Try.prog 25 #[.int .i64 7, .int .i64 a, .int .i64 b] w fun e w' => e = .returned (.tuple #[.int .i64 (wand a b), .bool true]) ∧ Below w.heap.size w w' := by
  have hi : ∀ w, (Instr.index 94 (.agg opsA) (.int .i64 5)).run Try.prog w = .ok (.func (.func 82) #[] #[]) w := fun _ => by kernel_rfl
  go_enter Try.func25, Try.ntmps25
  go_wp2_with (first | (go_at_call 41; refine (ops_c _).mono ?_; rintro e w1 ⟨rfl, HB⟩) | (go_at_call 82; refine (and_c a b _).mono ?_; rintro e w' ⟨rfl, rfl⟩))
  go_ret2
  exact ⟨rfl, HB⟩
theorem do_8 (a b : Int) (w : World) : Calls Try.prog 25 #[.int .i64 8, .int .i64 a, .int .i64 b] w fun e w' => e = .returned (.tuple #[.int .i64 (wor a b), .bool true]) ∧ Below w.heap.size w w' := by
  have hi : ∀ w, (Instr.index 94 (.agg opsA) (.int .i64 6)).run Try.prog w = .ok (.func (.func 83) #[] #[]) w := fun _ => by kernel_rfl
  go_enter Try.func25, Try.ntmps25
  go_wp2_with (first | (go_at_call 41; refine (ops_c _).mono ?_; rintro e w1 ⟨rfl, HB⟩) | (go_at_call 83; refine (or_c a b _).mono ?_; rintro e w' ⟨rfl, rfl⟩))
  go_ret2
  exact ⟨rfl, HB⟩
theorem do_9 (a b : Int) (w : World) : Calls Try.prog 25 #[.int .i64 9, .int .i64 a, .int .i64 b] w fun e w' => e = .returned (.tuple #[.int .i64 (wxor a b), .bool true]) ∧ Below w.heap.size w w' := by
  have hi : ∀ w, (Instr.index 94 (.agg opsA) (.int .i64 7)).run Try.prog w = .ok (.func (.func 84) #[] #[]) w := fun _ => by kernel_rfl
  go_enter Try.func25, Try.ntmps25
  go_wp2_with (first | (go_at_call 41; refine (ops_c _).mono ?_; rintro e w1 ⟨rfl, HB⟩) | (go_at_call 84; refine (xor_c a b _).mono ?_; rintro e w' ⟨rfl, rfl⟩))
  go_ret2
  exact ⟨rfl, HB⟩
theorem do_10 (a b : Int) (w : World) : Calls Try.prog 25 #[.int .i64 10, .int .i64 a, .int .i64 b] w fun e w' => e = .returned (.tuple #[.int .i64 (wbic a b), .bool true]) ∧ Below w.heap.size w w' := by
  have hi : ∀ w, (Instr.index 94 (.agg opsA) (.int .i64 8)).run Try.prog w = .ok (.func (.func 85) #[] #[]) w := fun _ => by kernel_rfl
  go_enter Try.func25, Try.ntmps25
  go_wp2_with (first | (go_at_call 41; refine (ops_c _).mono ?_; rintro e w1 ⟨rfl, HB⟩) | (go_at_call 85; refine (bic_c a b _).mono ?_; rintro e w' ⟨rfl, rfl⟩))
  go_ret2
  exact ⟨rfl, HB⟩
theorem do_11 (a b : Int) (w : World) : Calls Try.prog 25 #[.int .i64 11, .int .i64 a, .int .i64 b] w fun e w' => e = .returned (.tuple #[.int .i64 (wshl a b), .bool true]) ∧ Below w.heap.size w w' := by
  have hi : ∀ w, (Instr.index 94 (.agg opsA) (.int .i64 9)).run Try.prog w = .ok (.func (.func 86) #[] #[]) w := fun _ => by kernel_rfl
  go_enter Try.func25, Try.ntmps25
  go_wp2_with (first | (go_at_call 41; refine (ops_c _).mono ?_; rintro e w1 ⟨rfl, HB⟩) | (go_at_call 86; refine (shl_c a b _).mono ?_; rintro e w' ⟨rfl, rfl⟩))
  go_ret2
  exact ⟨rfl, HB⟩
theorem do_12 (a b : Int) (w : World) : Calls Try.prog 25 #[.int .i64 12, .int .i64 a, .int .i64 b] w fun e w' => e = .returned (.tuple #[.int .i64 (wshr a b), .bool true]) ∧ Below w.heap.size w w' := by
  have hi : ∀ w, (Instr.index 94 (.agg opsA) (.int .i64 10)).run Try.prog w = .ok (.func (.func 87) #[] #[]) w := fun _ => by kernel_rfl
  go_enter Try.func25, Try.ntmps25
  go_wp2_with (first | (go_at_call 41; refine (ops_c _).mono ?_; rintro e w1 ⟨rfl, HB⟩) | (go_at_call 87; refine (shr_c a b _).mono ?_; rintro e w' ⟨rfl, rfl⟩))
  go_ret2
  exact ⟨rfl, HB⟩
theorem do_13 (a b : Int) (w : World) : Calls Try.prog 25 #[.int .i64 13, .int .i64 a, .int .i64 b] w fun e w' => e = .returned (.tuple #[.int .i64 (tr (a == b)), .bool true]) ∧ Below w.heap.size w w' := by
  have hi : ∀ w, (Instr.index 94 (.agg opsA) (.int .i64 11)).run Try.prog w = .ok (.func (.func 88) #[] #[]) w := fun _ => by kernel_rfl
  go_enter Try.func25, Try.ntmps25
  go_wp2_with (first | (go_at_call 41; refine (ops_c _).mono ?_; rintro e w1 ⟨rfl, HB⟩) | (go_at_call 88; refine (eq_c a b _).mono ?_; rintro e w' ⟨rfl, rfl⟩))
  go_ret2
  exact ⟨rfl, HB⟩
theorem do_14 (a b : Int) (w : World) : Calls Try.prog 25 #[.int .i64 14, .int .i64 a, .int .i64 b] w fun e w' => e = .returned (.tuple #[.int .i64 (tr (a != b)), .bool true]) ∧ Below w.heap.size w w' := by
  have hi : ∀ w, (Instr.index 94 (.agg opsA) (.int .i64 12)).run Try.prog w = .ok (.func (.func 90) #[] #[]) w := fun _ => by kernel_rfl
  go_enter Try.func25, Try.ntmps25
  go_wp2_with (first | (go_at_call 41; refine (ops_c _).mono ?_; rintro e w1 ⟨rfl, HB⟩) | (go_at_call 90; refine (ne_c a b _).mono ?_; rintro e w' ⟨rfl, rfl⟩))
  go_ret2
  exact ⟨rfl, HB⟩
theorem do_15 (a b : Int) (w : World) : Calls Try.prog 25 #[.int .i64 15, .int .i64 a, .int .i64 b] w fun e w' => e = .returned (.tuple #[.int .i64 (tr (decide (a < b))), .bool true]) ∧ Below w.heap.size w w' := by
  have hi : ∀ w, (Instr.index 94 (.agg opsA) (.int .i64 13)).run Try.prog w = .ok (.func (.func 91) #[] #[]) w := fun _ => by kernel_rfl
  go_enter Try.func25, Try.ntmps25
  go_wp2_with (first | (go_at_call 41; refine (ops_c _).mono ?_; rintro e w1 ⟨rfl, HB⟩) | (go_at_call 91; refine (lt_c a b _).mono ?_; rintro e w' ⟨rfl, rfl⟩))
  go_ret2
  exact ⟨rfl, HB⟩
theorem do_16 (a b : Int) (w : World) : Calls Try.prog 25 #[.int .i64 16, .int .i64 a, .int .i64 b] w fun e w' => e = .returned (.tuple #[.int .i64 (tr (decide (a ≤ b))), .bool true]) ∧ Below w.heap.size w w' := by
  have hi : ∀ w, (Instr.index 94 (.agg opsA) (.int .i64 14)).run Try.prog w = .ok (.func (.func 92) #[] #[]) w := fun _ => by kernel_rfl
  go_enter Try.func25, Try.ntmps25
  go_wp2_with (first | (go_at_call 41; refine (ops_c _).mono ?_; rintro e w1 ⟨rfl, HB⟩) | (go_at_call 92; refine (le_c a b _).mono ?_; rintro e w' ⟨rfl, rfl⟩))
  go_ret2
  exact ⟨rfl, HB⟩
theorem do_17 (a b : Int) (w : World) : Calls Try.prog 25 #[.int .i64 17, .int .i64 a, .int .i64 b] w fun e w' => e = .returned (.tuple #[.int .i64 (wneg a), .bool true]) ∧ Below w.heap.size w w' := by
  have hi : ∀ w, (Instr.index 94 (.agg opsA) (.int .i64 15)).run Try.prog w = .ok (.func (.func 93) #[] #[]) w := fun _ => by kernel_rfl
  go_enter Try.func25, Try.ntmps25
  go_wp2_with (first | (go_at_call 41; refine (ops_c _).mono ?_; rintro e w1 ⟨rfl, HB⟩) | (go_at_call 93; refine (negf_c a b _).mono ?_; rintro e w' ⟨rfl, rfl⟩))
  go_ret2
  exact ⟨rfl, HB⟩
theorem do_18 (a b : Int) (w : World) : Calls Try.prog 25 #[.int .i64 18, .int .i64 a, .int .i64 b] w fun e w' => e = .returned (.tuple #[.int .i64 (winv a), .bool true]) ∧ Below w.heap.size w w' := by
  have hi : ∀ w, (Instr.index 94 (.agg opsA) (.int .i64 16)).run Try.prog w = .ok (.func (.func 95) #[] #[]) w := fun _ => by kernel_rfl
  go_enter Try.func25, Try.ntmps25
  go_wp2_with (first | (go_at_call 41; refine (ops_c _).mono ?_; rintro e w1 ⟨rfl, HB⟩) | (go_at_call 95; refine (invf_c a b _).mono ?_; rintro e w' ⟨rfl, rfl⟩))
  go_ret2
  exact ⟨rfl, HB⟩
theorem do_19 (a b : Int) (w : World) : Calls Try.prog 25 #[.int .i64 19, .int .i64 a, .int .i64 b] w fun e w' => e = .returned (.tuple #[.int .i64 (wsub 1 a), .bool true]) ∧ Below w.heap.size w w' := by
  have hi : ∀ w, (Instr.index 94 (.agg opsA) (.int .i64 17)).run Try.prog w = .ok (.func (.func 97) #[] #[]) w := fun _ => by kernel_rfl
  go_enter Try.func25, Try.ntmps25
  go_wp2_with (first | (go_at_call 41; refine (ops_c _).mono ?_; rintro e w1 ⟨rfl, HB⟩) | (go_at_call 97; refine (not_c a b _).mono ?_; rintro e w' ⟨rfl, rfl⟩))
  go_ret2
  exact ⟨rfl, HB⟩
/-- EVERY Do. -/
theorem do_c (op a b : Int) (w : World) : Calls Try.prog 25 #[.int .i64 op, .int .i64 a, .int .i64 b] w fun e w' => e = .returned (.tuple #[.int .i64 (wdo op a b), .bool (isOp op)]) ∧ Below w.heap.size w w' := by
  by_cases h1 : op < 2
  · refine (do_lo op a b w h1).mono fun e w' h => ?_
    obtain ⟨rfl, rfl⟩ := h
    exact ⟨by rw [wdo_none op a b (by omega), isOp_none op (by omega)], Below.refl _ _⟩
  by_cases h2 : 19 < op
  · refine (do_hi op a b w h2).mono fun e w' h => ?_
    obtain ⟨rfl, rfl⟩ := h
    exact ⟨by rw [wdo_none op a b (by omega), isOp_none op (by omega)], Below.refl _ _⟩
  have h3 : op = 2 ∨ op = 3 ∨ op = 4 ∨ op = 5 ∨ op = 6 ∨ op = 7 ∨ op = 8 ∨ op = 9 ∨ op = 10 ∨ op = 11 ∨ op = 12 ∨ op = 13 ∨ op = 14 ∨ op = 15 ∨ op = 16 ∨ op = 17 ∨ op = 18 ∨ op = 19 := by omega
  rcases h3 with rfl | rfl | rfl | rfl | rfl | rfl | rfl | rfl | rfl | rfl | rfl | rfl | rfl | rfl | rfl | rfl | rfl | rfl
  · exact do_2 a b w
  · exact do_3 a b w
  · exact do_4 a b w
  · exact do_5 a b w
  · exact do_6 a b w
  · exact do_7 a b w
  · exact do_8 a b w
  · exact do_9 a b w
  · exact do_10 a b w
  · exact do_11 a b w
  · exact do_12 a b w
  · exact do_13 a b w
  · exact do_14 a b w
  · exact do_15 a b w
  · exact do_16 a b w
  · exact do_17 a b w
  · exact do_18 a b w
  · exact do_19 a b w
end Go.Proofs.Ytkjfbojmkkdgoaa
