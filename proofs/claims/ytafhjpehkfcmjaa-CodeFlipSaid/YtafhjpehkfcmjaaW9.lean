/- the document's Fields: the walk. -/
import Derived.Test.YtafhjpehkfcmjaaW8
set_option linter.unusedVariables false
set_option linter.unusedSimpArgs false
namespace Go.Proofs.Ytafhjpehkfcmjaa
open Go.RowKit
attribute [local go_sem ↓] Go.wp_at_zero Go.wp_at_succ
def fieldsV : Array Value := #[.string ⟨#[]⟩, .string ⟨#[97, 110]⟩, .string ⟨#[97, 98]⟩, .string ⟨#[97, 98, 99]⟩, .string ⟨#[97, 98, 99]⟩, .string ⟨#[97, 98, 99]⟩, .string ⟨#[97, 98, 99]⟩, .string ⟨#[97, 98, 99]⟩, .string ⟨#[97, 98, 99]⟩, .string ⟨#[97, 98, 99]⟩, .string ⟨#[97, 98, 99]⟩, .string ⟨#[97, 98, 99]⟩, .string ⟨#[97, 98, 99]⟩, .string ⟨#[97, 98, 99]⟩, .string ⟨#[97, 98, 99]⟩, .string ⟨#[97, 98, 99]⟩, .string ⟨#[97, 98, 99]⟩, .string ⟨#[97, 98, 99]⟩, .string ⟨#[97, 98]⟩, .string ⟨#[97, 98]⟩, .string ⟨#[97, 98]⟩, .string ⟨#[110]⟩, .string ⟨#[97, 110]⟩, .string ⟨#[97, 110]⟩, .string ⟨#[97, 110]⟩, .string ⟨#[97, 110]⟩, .string ⟨#[110]⟩, .string ⟨#[]⟩, .string ⟨#[97, 98]⟩, .string ⟨#[97, 98]⟩, .string ⟨#[97, 98, 99]⟩, .string ⟨#[97, 98, 99]⟩, .string ⟨#[97, 110]⟩, .string ⟨#[97, 110]⟩, .string ⟨#[97, 98, 110]⟩, .string ⟨#[97, 110]⟩, .string ⟨#[97]⟩, .string ⟨#[97]⟩, .string ⟨#[97]⟩]
def fieldsL : List ByteArray := [⟨#[]⟩, ⟨#[97, 110]⟩, ⟨#[97, 98]⟩, ⟨#[97, 98, 99]⟩, ⟨#[97, 98, 99]⟩, ⟨#[97, 98, 99]⟩, ⟨#[97, 98, 99]⟩, ⟨#[97, 98, 99]⟩, ⟨#[97, 98, 99]⟩, ⟨#[97, 98, 99]⟩, ⟨#[97, 98, 99]⟩, ⟨#[97, 98, 99]⟩, ⟨#[97, 98, 99]⟩, ⟨#[97, 98, 99]⟩, ⟨#[97, 98, 99]⟩, ⟨#[97, 98, 99]⟩, ⟨#[97, 98, 99]⟩, ⟨#[97, 98, 99]⟩, ⟨#[97, 98]⟩, ⟨#[97, 98]⟩, ⟨#[97, 98]⟩, ⟨#[110]⟩, ⟨#[97, 110]⟩, ⟨#[97, 110]⟩, ⟨#[97, 110]⟩, ⟨#[97, 110]⟩, ⟨#[110]⟩, ⟨#[]⟩, ⟨#[97, 98]⟩, ⟨#[97, 98]⟩, ⟨#[97, 98, 99]⟩, ⟨#[97, 98, 99]⟩, ⟨#[97, 110]⟩, ⟨#[97, 110]⟩, ⟨#[97, 98, 110]⟩, ⟨#[97, 110]⟩, ⟨#[97]⟩, ⟨#[97]⟩, ⟨#[97]⟩]
def fieldsE : Array Value := #[.string ⟨#[]⟩, .string ⟨#[]⟩, .string ⟨#[]⟩, .string ⟨#[]⟩, .string ⟨#[]⟩, .string ⟨#[]⟩, .string ⟨#[]⟩, .string ⟨#[]⟩, .string ⟨#[]⟩, .string ⟨#[]⟩, .string ⟨#[]⟩, .string ⟨#[]⟩, .string ⟨#[]⟩, .string ⟨#[]⟩, .string ⟨#[]⟩, .string ⟨#[]⟩, .string ⟨#[]⟩, .string ⟨#[]⟩, .string ⟨#[]⟩, .string ⟨#[]⟩, .string ⟨#[]⟩, .string ⟨#[]⟩, .string ⟨#[]⟩, .string ⟨#[]⟩, .string ⟨#[]⟩, .string ⟨#[]⟩, .string ⟨#[]⟩, .string ⟨#[]⟩, .string ⟨#[]⟩, .string ⟨#[]⟩, .string ⟨#[]⟩, .string ⟨#[]⟩, .string ⟨#[]⟩, .string ⟨#[]⟩, .string ⟨#[]⟩, .string ⟨#[]⟩, .string ⟨#[]⟩, .string ⟨#[]⟩, .string ⟨#[]⟩]
theorem fieldsV_at : ∀ i, i < 39 → fieldsV[i]? = some (.string (fieldsL.getD i ⟨#[]⟩))
  | 0, _ => rfl
  | 1, _ => rfl
  | 2, _ => rfl
  | 3, _ => rfl
  | 4, _ => rfl
  | 5, _ => rfl
  | 6, _ => rfl
  | 7, _ => rfl
  | 8, _ => rfl
  | 9, _ => rfl
  | 10, _ => rfl
  | 11, _ => rfl
  | 12, _ => rfl
  | 13, _ => rfl
  | 14, _ => rfl
  | 15, _ => rfl
  | 16, _ => rfl
  | 17, _ => rfl
  | 18, _ => rfl
  | 19, _ => rfl
  | 20, _ => rfl
  | 21, _ => rfl
  | 22, _ => rfl
  | 23, _ => rfl
  | 24, _ => rfl
  | 25, _ => rfl
  | 26, _ => rfl
  | 27, _ => rfl
  | 28, _ => rfl
  | 29, _ => rfl
  | 30, _ => rfl
  | 31, _ => rfl
  | 32, _ => rfl
  | 33, _ => rfl
  | 34, _ => rfl
  | 35, _ => rfl
  | 36, _ => rfl
  | 37, _ => rfl
  | 38, _ => rfl
  | n + 39, h => by omega
def fieldsP : Array (Nat × Operand) := #[(0, .const (.string ⟨#[]⟩)), (1, .const (.string ⟨#[97, 110]⟩)), (2, .const (.string ⟨#[97, 98]⟩)), (3, .const (.string ⟨#[97, 98, 99]⟩)), (4, .const (.string ⟨#[97, 98, 99]⟩)), (5, .const (.string ⟨#[97, 98, 99]⟩)), (6, .const (.string ⟨#[97, 98, 99]⟩)), (7, .const (.string ⟨#[97, 98, 99]⟩)), (8, .const (.string ⟨#[97, 98, 99]⟩)), (9, .const (.string ⟨#[97, 98, 99]⟩)), (10, .const (.string ⟨#[97, 98, 99]⟩)), (11, .const (.string ⟨#[97, 98, 99]⟩)), (12, .const (.string ⟨#[97, 98, 99]⟩)), (13, .const (.string ⟨#[97, 98, 99]⟩)), (14, .const (.string ⟨#[97, 98, 99]⟩)), (15, .const (.string ⟨#[97, 98, 99]⟩)), (16, .const (.string ⟨#[97, 98, 99]⟩)), (17, .const (.string ⟨#[97, 98, 99]⟩)), (18, .const (.string ⟨#[97, 98]⟩)), (19, .const (.string ⟨#[97, 98]⟩)), (20, .const (.string ⟨#[97, 98]⟩)), (21, .const (.string ⟨#[110]⟩)), (22, .const (.string ⟨#[97, 110]⟩)), (23, .const (.string ⟨#[97, 110]⟩)), (24, .const (.string ⟨#[97, 110]⟩)), (25, .const (.string ⟨#[97, 110]⟩)), (26, .const (.string ⟨#[110]⟩)), (27, .const (.string ⟨#[]⟩)), (28, .const (.string ⟨#[97, 98]⟩)), (29, .const (.string ⟨#[97, 98]⟩)), (30, .const (.string ⟨#[97, 98, 99]⟩)), (31, .const (.string ⟨#[97, 98, 99]⟩)), (32, .const (.string ⟨#[97, 110]⟩)), (33, .const (.string ⟨#[97, 110]⟩)), (34, .const (.string ⟨#[97, 98, 110]⟩)), (35, .const (.string ⟨#[97, 110]⟩)), (36, .const (.string ⟨#[97]⟩)), (37, .const (.string ⟨#[97]⟩)), (38, .const (.string ⟨#[97]⟩))]
/-- Is the letter c among the first i of s? -/
def hasCh (s : ByteArray) (c : Nat) : Nat → Bool
  | 0 => false
  | i + 1 => hasCh s c i || bAt s i == c
theorem fields_size : ∀ k : Nat, (fieldsL.getD k ⟨#[]⟩).size ≤ 3 := by
  intro k
  rcases Nat.lt_or_ge k 39 with h | h
  · have : ∀ j : Fin 39, (fieldsL.getD j.1 ⟨#[]⟩).size ≤ 3 := by decide
    exact this ⟨k, h⟩
  · rw [List.getD_eq_getElem?_getD, List.getElem?_eq_none (by show 39 ≤ k; exact h)]
    decide
def flagsV (s : ByteArray) (i : Nat) : Array Value := #[.bool (hasCh s 97 i), .bool (hasCh s 98 i), .bool (hasCh s 99 i), .bool (hasCh s 110 i)]
def dflags (op : Int) : Array Value := if op < 1 ∨ 38 < op then #[.bool false, .bool false, .bool false, .bool false] else flagsV (fieldsL.getD op.toNat ⟨#[]⟩) (fieldsL.getD op.toNat ⟨#[]⟩).size
def opIn (op : Int) : Bool := decide (1 ≤ op) && decide (op ≤ 38)
section
variable {P : Program} {w w' : World} {ops : Array Oper} {rest : List Oper} {o : Oper} {a : Act} {Q : Exit → Act → World → Prop}
theorem wpList_value {v : Value} (hg : o.guard = none) (h : (execOp a.eval o).run P w = .ok (.value v) w') (hK : wpList P ops Q rest (a.put o.dst v) w') : wpList P ops Q (o :: rest) a w := by
  refine wpList_plain hg fun K' hK' => ?_
  unfold Oper.wp
  rw [h]
  exact hK' _ _ hK
theorem wpList_skip_ (hg : o.guard = none) (h : (execOp a.eval o).run P w = .ok .skip w') (hK : wpList P ops Q rest (a.put o.dst undef) w') : wpList P ops Q (o :: rest) a w := by
  refine wpList_plain hg fun K' hK' => ?_
  unfold Oper.wp
  rw [h]
  exact hK' _ _ hK
end
set_option maxRecDepth 100000 in
theorem fields_info : (Try.prog.info? 94).map (·.size) = some fieldsV.size := by kernel_rfl
set_option maxRecDepth 100000 in
theorem fields_one : fieldsV.all (·.oneCell') = true := by kernel_rfl
set_option maxRecDepth 100000 in
theorem fields_build {o : Oper} (h : o.op = .build 94 fieldsP) (a : Act) (w : World) : (execOp a.eval o).run Try.prog w = .ok (.value (.agg fieldsV)) w := by
  obtain ⟨dst, op, ty, pos, after, guard⟩ := o
  simp only at h
  subst h
  kernel_rfl
set_option maxRecDepth 100000 in
theorem fields_alloc {o : Oper} (h : o.op = .alloc 94) (a : Act) (w : World) : (execOp a.eval o).run Try.prog w = .ok (.value (.pointer (some ⟨w.heap.size, 0, none⟩))) (w.alloc (.cells fieldsE 94)) := by
  obtain ⟨dst, op, ty, pos, after, guard⟩ := o
  simp only at h
  subst h
  kernel_rfl
theorem fields_store {o : Oper} {x y : Operand} (h : o.op = .store 94 x y) (a : Act) (w : World) (hx : a.eval x = .pointer (some ⟨w.heap.size, 0, none⟩)) (hy : a.eval y = .agg fieldsV) : (execOp a.eval o).run Try.prog (w.alloc (.cells fieldsE 94)) = .ok .skip (w.alloc (.cells fieldsV 94)) := by
  obtain ⟨dst, op, ty, pos, after, guard⟩ := o
  simp only at h
  subst h
  have := run_storeAt_new (P := Try.prog) w 94 fieldsE fieldsV fields_info rfl fields_one
  simp [execOp, hx, hy, this, Result.andThen]
end Go.Proofs.Ytafhjpehkfcmjaa
