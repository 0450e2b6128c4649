/- r16's table of operations. -/
import Derived.Test.YtkjfbojmkkdgoaaX18
import Derived.Laws.Tables
import Derived.Deep.LoopGhost
set_option linter.unusedVariables false
set_option linter.unusedSimpArgs false
namespace Go.Proofs.Ytkjfbojmkkdgoaa
open Go.RowKit
attribute [local go_sem ↓] Go.wp_at_zero Go.wp_at_succ
def opsE : Array Value := #[.nilFunc, .nilFunc, .nilFunc, .nilFunc, .nilFunc, .nilFunc, .nilFunc, .nilFunc, .nilFunc, .nilFunc, .nilFunc, .nilFunc, .nilFunc, .nilFunc, .nilFunc, .nilFunc, .nilFunc, .nilFunc, .nilFunc, .nilFunc, .nilFunc, .nilFunc, .nilFunc, .nilFunc, .nilFunc, .nilFunc, .nilFunc, .nilFunc, .nilFunc, .nilFunc, .nilFunc, .nilFunc, .nilFunc, .nilFunc, .nilFunc, .nilFunc, .nilFunc, .nilFunc, .nilFunc]
def tabA (k : Nat) : Array Value := ((List.range 39).map fun j => if 3 ≤ j ∧ j < k then Value.func (Go.Fn.func 51) #[] #[] else Value.nilFunc).toArray
theorem tabA_start : tabA 3 = opsE := by kernel_rfl
theorem tabA_size (k : Nat) : (tabA k).size = 39 := by unfold tabA; simp
theorem tabA_get (k : Nat) {j : Nat} (h : j < 39) : (tabA k)[j]? = some (if 3 ≤ j ∧ j < k then Value.func (Go.Fn.func 51) #[] #[] else Value.nilFunc) := by
  unfold tabA
  rw [List.getElem?_toArray, List.getElem?_map, List.getElem?_range h]
  rfl
theorem tabA_set (k : Nat) (h3 : 3 ≤ k) (h : k < 39) : (tabA k).setIfInBounds k (Value.func (Go.Fn.func 51) #[] #[]) = tabA (k + 1) := by
  apply Array.ext
  · simp [tabA_size]
  · intro j h1 h2
    have hj : j < 39 := by rwa [tabA_size] at h2
    have e : ((tabA k).setIfInBounds k (Value.func (Go.Fn.func 51) #[] #[]))[j]? = (tabA (k + 1))[j]? := by
      rw [Array.getElem?_setIfInBounds, tabA_get k hj, tabA_get (k + 1) hj, tabA_size]
      by_cases he : k = j
      · subst he
        rw [if_pos rfl, if_pos h, if_pos ⟨h3, by omega⟩]
      · rw [if_neg he]
        congr 1
        by_cases hc : 3 ≤ j ∧ j < k
        · rw [if_pos hc, if_pos ⟨hc.1, by omega⟩]
        · rw [if_neg hc, if_neg (by omega)]
    rw [Array.getElem?_eq_getElem h1, Array.getElem?_eq_getElem h2] at e
    exact Option.some.inj e
theorem tabA_end : (((((((((((((((((((((((((((tabA 18).setIfInBounds 1 (.func (Go.Fn.func 52) #[] #[])).setIfInBounds 2 (.func (Go.Fn.func 53) #[] #[])).setIfInBounds 6 (.func (Go.Fn.func 54) #[] #[])).setIfInBounds 7 (.func (Go.Fn.func 54) #[] #[])).setIfInBounds 12 (.func (Go.Fn.func 55) #[] #[])).setIfInBounds 13 (.func (Go.Fn.func 55) #[] #[])).setIfInBounds 18 (.func (Go.Fn.func 56) #[] #[])).setIfInBounds 19 (.func (Go.Fn.func 56) #[] #[])).setIfInBounds 20 (.func (Go.Fn.func 57) #[] #[])).setIfInBounds 21 (.func (Go.Fn.func 58) #[] #[])).setIfInBounds 22 (.func (Go.Fn.func 59) #[] #[])).setIfInBounds 23 (.func (Go.Fn.func 60) #[] #[])).setIfInBounds 24 (.func (Go.Fn.func 61) #[] #[])).setIfInBounds 25 (.func (Go.Fn.func 62) #[] #[])).setIfInBounds 26 (.func (Go.Fn.func 63) #[] #[])).setIfInBounds 27 (.func (Go.Fn.func 64) #[] #[])).setIfInBounds 28 (.func (Go.Fn.func 65) #[] #[])).setIfInBounds 29 (.func (Go.Fn.func 66) #[] #[])).setIfInBounds 30 (.func (Go.Fn.func 67) #[] #[])).setIfInBounds 31 (.func (Go.Fn.func 68) #[] #[])).setIfInBounds 32 (.func (Go.Fn.func 69) #[] #[])).setIfInBounds 33 (.func (Go.Fn.func 70) #[] #[])).setIfInBounds 34 (.func (Go.Fn.func 71) #[] #[])).setIfInBounds 35 (.func (Go.Fn.func 72) #[] #[])).setIfInBounds 36 (.func (Go.Fn.func 73) #[] #[])).setIfInBounds 37 (.func (Go.Fn.func 74) #[] #[])).setIfInBounds 38 (.func (Go.Fn.func 75) #[] #[]) = doesV := by kernel_rfl
theorem ops_info : (Try.prog.info? 78).map (·.size) = some 39 := by kernel_rfl
theorem ops_alloc {o : Oper} (h : o.op = .alloc 78) (a : Act) (w : World) : (execOp a.eval o).run Try.prog w = .ok (.value (.pointer (some ⟨w.heap.size, 0, none⟩))) (w.alloc (.cells opsE 78)) := by
  obtain ⟨dst, op, ty, pos, after, guard⟩ := o
  simp only at h
  subst h
  kernel_rfl
theorem ops_load {o : Oper} {x : Operand} (h : o.op = .load 78 x) (a : Act) (w : World) (b : Nat) (cs : Array Value) (hx : a.eval x = .pointer (some ⟨b, 0, none⟩)) (hB : Blk w b 78 cs) (hs : cs.size = 39) : (execOp a.eval o).run Try.prog w = .ok (.value (.agg cs)) w := by
  obtain ⟨dst, op, ty, pos, after, guard⟩ := o
  simp only at h
  subst h
  have := run_loadVar_row (P := Try.prog) w b 78 78 cs (0, 0) _ hB Try.underlying78 rfl (by rw [ops_info, hs])
  simp [execOp, hx, Instr.loadAt, Instr.sureAddr, this, Result.andThen]
theorem ops_store {o : Oper} {x y : Operand} (h : o.op = .store 78 x y) (a : Act) (w : World) (b : Nat) (cur cs : Array Value) (hx : a.eval x = .pointer (some ⟨b, 0, none⟩)) (hy : a.eval y = .agg cs) (hB : Blk w b 78 cur) (hs : cs.size = 39) (hc : cur.size = 39) (h1 : ∀ v ∈ cs.toList, v.oneCell' = true) : (execOp a.eval o).run Try.prog w = .ok .skip (w.setRow b cs) := by
  obtain ⟨dst, op, ty, pos, after, guard⟩ := o
  simp only at h
  subst h
  have := run_storeCells_from (P := Try.prog) b 78 cs.toList 0 cur w hB (by simp [hs, hc]) h1
  simp at this
  have hst : (storeVar 78 ⟨b, 0, none⟩ (.agg cs)).run Try.prog w = .ok () (w.setRow b cs) := by
    have hz : (sizeOf 78).run Try.prog w = .ok 39 w := by kernel_rfl
    simp [storeVar, hz, hs, Value.cells, this, Result.andThen]
  simp [execOp, hx, hy, Instr.storeAt, Instr.sureAddr, hst, Result.andThen]
theorem Only.setRow {F : Nat → Prop} {a w : World} (h : Only F a w) {b : Nat} (hb : F b ∨ a.heap.size ≤ b) (cs : Array Value) : Only F a (w.setRow b cs) :=
  ⟨h.os, h.tape, h.output, by unfold World.setRow; simpa using h.size, fun k hk hF => by
    have hne : ¬ b = k := fun e => by
      subst e
      rcases hb with hb | hb
      · exact hF hb
      · omega
    rw [← h.block k hk hF]
    unfold World.setRow
    simp [Array.getElem?_modify, hne]⟩
theorem Blk.row {w : World} {b : Nat} {t : TypeId} {cur : Array Value} (h : Blk w b t cur) (cs : Array Value) : Blk (w.setRow b cs) b t cs := setRow_heap w b cur cs t (0, 0) h
theorem doesV_one : ∀ v ∈ doesV.toList, v.oneCell' = true := by decide
theorem step_put {ops : Array Oper} {rest : List Oper} {o : Oper} {a : Act} {Q : Exit → Act → World → Prop} {w w0 : World} {x : Operand} {n k b : Nat} {cur : Array Value} (hg : o.guard = none) (h : o.op = .store 76 x (.func n)) (hx : a.eval x = .pointer (some ⟨b, k, none⟩)) (hB : Blk w b 78 cur) (hO : Only (fun c => c = b) w0 w) (hk : k < cur.size)
    (hK : ∀ w', Blk w' b 78 (cur.setIfInBounds k (.func (Go.Fn.func n) #[] #[])) → Only (fun c => c = b) w0 w' → wpList Try.prog ops Q rest (a.put o.dst undef) w') : wpList Try.prog ops Q (o :: rest) a w := by
  refine wpList_skip_ hg ?_ (hK _ (hB.set_ k _) (hO.cells (p := ⟨b, k, none⟩) rfl _))
  obtain ⟨dst, op, ty, pos, after, guard⟩ := o
  simp only at h
  subst h
  have hc := hB.cell k
  have hz := hB.frozen k
  have hst : (store ⟨b, k, none⟩ (.func (Go.Fn.func n) #[] #[])).run Try.prog w = .ok () (w.setCell ⟨b, k, none⟩ (.func (Go.Fn.func n) #[] #[])) := by
    rw [run_store _ _ _ _ _ rfl, hc]
    rw [Array.getElem?_eq_getElem hk]
    simp [hz]
  have hf : a.eval (.func n) = .func (Go.Fn.func n) #[] #[] := rfl
  have hs1 : (sizeOf 76).run Try.prog w = .ok 1 w := by kernel_rfl
  have hsv : (storeVar 76 ⟨b, k, none⟩ (.func (Go.Fn.func n) #[] #[])).run Try.prog w = .ok () (w.setCell ⟨b, k, none⟩ (.func (Go.Fn.func n) #[] #[])) := by
    simp [storeVar, hs1, Value.cells, storeCells, hst, Result.andThen, Addr.add]
  simp [execOp, hx, hf, Instr.storeAt, Instr.sureAddr, hsv, Result.andThen]
set_option maxRecDepth 100000 in
set_option maxHeartbeats 8000000 in
theorem operations_c (w : World) : Calls Try.prog 34 #[] w fun e w' => e = .returned (.agg doesV) ∧ Below w.heap.size w w' := by
  go_enter Try.func34, Try.ntmps34
  go_wp2_with (refine wpList_value rfl (ops_alloc rfl _ _) ?_)
  have B0 : Blk ((w.alloc (.cells opsE 78)).alloc (.cells opsE 78)) w.heap.size 78 opsE := (Blk.new w 78 opsE).alloc _
  have B1 : Blk ((w.alloc (.cells opsE 78)).alloc (.cells opsE 78)) (w.heap.size + 1) 78 opsE := by
    have := Blk.new (w.alloc (.cells opsE 78)) 78 opsE
    rwa [show (w.alloc (.cells opsE 78)).heap.size = w.heap.size + 1 by simp] at this
  have OA : Only (fun _ => False) w ((w.alloc (.cells opsE 78)).alloc (.cells opsE 78)) := ((Only.refl (fun _ => False) w).alloc _).alloc _
  have B0 := Lib.hid B0
  have B1 := Lib.hid B1
  have OA := Lib.hid OA
  generalize World.alloc (World.alloc _ _) _ = w1 at *
  generalize hb0 : w.heap.size = b0 at *
  go_loopw [2] (fun iv wr => ∃ k : Nat, iv = .int .i64 (k : Int) ∧ 3 ≤ k ∧ k ≤ 18 ∧ Hid (Blk wr (b0 + 1) 78 (tabA k) ∧ Blk wr b0 78 opsE ∧ Only (fun b => b = b0 + 1) w1 wr)) (fun iv _ => 18 - (intOf iv).toNat)
  case atStart => exact ⟨3, rfl, by omega, by omega, by rw [tabA_start]; exact B1.out, B0.out, Only.refl _ _⟩
  case round =>
    obtain ⟨k, rfl, h3, h18, H⟩ := hrel
    by_cases hc : (k : Int) ≤ 17
    · have hk : k < 39 := by omega
      have hk2 : (k : Int) < 39 := by omega
      have hk0 : (0 : Int) ≤ (k : Int) := Int.natCast_nonneg _
      go_wp2_with (refine step_put rfl rfl rfl H.out.1 H.out.2.2 ?_ ?_; (focus (rw [tabA_size]; exact hk)); go_must (intro w2 h2 h3; have H2 := Lib.hid h2; have H3 := Lib.hid h3; clear h2 h3))
      go_roundw
      case rel =>
        refine ⟨k + 1, by simp, by omega, by omega, ?_, ?_, H3.out⟩
        · have := H2.out
          rwa [tabA_set k h3 hk] at this
        · exact B0.out.only H3.out (by omega)
      case measure => simp [intOf]; omega
    · have e18 : k = 18 := by omega
      subst e18
      have BL := Lib.hid (And.intro H.out.1 H.out.2.2)
      clear hc h3 h18
      go_wp2_with (first
        | (refine step_put rfl rfl rfl BL.out.1 BL.out.2 ?_ ?_; (focus (simp only [Array.size_setIfInBounds, tabA_size] <;> decide)); go_must (intro w2 h2 h3; have BM := Lib.hid (And.intro h2 h3); clear BL h2 h3; have BL := BM; clear BM))
        | (refine wpList_value rfl (ops_load rfl _ _ (b0 + 1) _ rfl BL.out.1 ?_) ?_; (focus (simp only [Array.size_setIfInBounds, tabA_size])); rw [tabA_end])
        | (refine wpList_skip_ rfl (ops_store rfl _ _ b0 opsE doesV rfl rfl (B0.out.only BL.out.2 (by omega)) rfl rfl doesV_one) ?_))
      refine bodyPost_ret (results_cell rfl (a := ⟨b0, 0, none⟩) rfl (run_loadVar_row _ b0 78 78 _ (0, 0) _ ((B0.out.only BL.out.2 (by omega)).row doesV) Try.underlying78 rfl (by kernel_rfl))) rfl ?_
      refine ⟨rfl, ((OA.out.trans (G := fun b => b = b0 + 1) BL.out.2 (fun b h1 h2 => ?_)).setRow (.inr (by omega)) doesV).toBelow (Nat.le_refl _) fun _ _ h => h⟩
      have h3 : b = b0 + 1 := h2
      omega
end Go.Proofs.Ytkjfbojmkkdgoaa
