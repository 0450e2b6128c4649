/- the document's Fields: the walk. the document's Fields: the walk. -/
import Derived.Test.YtkjfbojmkkdgoaaA8
set_option linter.unusedVariables false
set_option linter.unusedSimpArgs false
namespace Go.Proofs.Ytkjfbojmkkdgoaa
open Go.RowKit
attribute [local go_sem ↓] Go.wp_at_zero Go.wp_at_succ
def fieldsV : Array Value := #[.string ⟨#[]⟩, .string ⟨#[97, 110]⟩, .string ⟨#[97, 98]⟩, .string ⟨#[97, 98, 99]⟩, .string ⟨#[97, 98, 99]⟩, .string ⟨#[97, 98, 99]⟩, .string ⟨#[97, 98, 99]⟩, .string ⟨#[97, 98, 99]⟩, .string ⟨#[97, 98, 99]⟩, .string ⟨#[97, 98, 99]⟩, .string ⟨#[97, 98, 99]⟩, .string ⟨#[97, 98, 99]⟩, .string ⟨#[97, 98, 99]⟩, .string ⟨#[97, 98, 99]⟩, .string ⟨#[97, 98, 99]⟩, .string ⟨#[97, 98, 99]⟩, .string ⟨#[97, 98, 99]⟩, .string ⟨#[97, 98, 99]⟩, .string ⟨#[97, 98]⟩, .string ⟨#[97, 98]⟩, .string ⟨#[97, 98]⟩, .string ⟨#[110]⟩, .string ⟨#[97, 110]⟩, .string ⟨#[97, 110]⟩, .string ⟨#[97, 110]⟩, .string ⟨#[97, 110]⟩, .string ⟨#[110]⟩, .string ⟨#[]⟩, .string ⟨#[97, 98]⟩, .string ⟨#[97, 98]⟩, .string ⟨#[97, 98, 99]⟩, .string ⟨#[97, 98, 99]⟩, .string ⟨#[97, 110]⟩, .string ⟨#[97, 110]⟩, .string ⟨#[97, 98, 110]⟩, .string ⟨#[97, 110]⟩, .string ⟨#[97]⟩, .string ⟨#[97]⟩, .string ⟨#[97]⟩]
def fieldsL : List ByteArray := [⟨#[]⟩, ⟨#[97, 110]⟩, ⟨#[97, 98]⟩, ⟨#[97, 98, 99]⟩, ⟨#[97, 98, 99]⟩, ⟨#[97, 98, 99]⟩, ⟨#[97, 98, 99]⟩, ⟨#[97, 98, 99]⟩, ⟨#[97, 98, 99]⟩, ⟨#[97, 98, 99]⟩, ⟨#[97, 98, 99]⟩, ⟨#[97, 98, 99]⟩, ⟨#[97, 98, 99]⟩, ⟨#[97, 98, 99]⟩, ⟨#[97, 98, 99]⟩, ⟨#[97, 98, 99]⟩, ⟨#[97, 98, 99]⟩, ⟨#[97, 98, 99]⟩, ⟨#[97, 98]⟩, ⟨#[97, 98]⟩, ⟨#[97, 98]⟩, ⟨#[110]⟩, ⟨#[97, 110]⟩, ⟨#[97, 110]⟩, ⟨#[97, 110]⟩, ⟨#[97, 110]⟩, ⟨#[110]⟩, ⟨#[]⟩, ⟨#[97, 98]⟩, ⟨#[97, 98]⟩, ⟨#[97, 98, 99]⟩, ⟨#[97, 98, 99]⟩, ⟨#[97, 110]⟩, ⟨#[97, 110]⟩, ⟨#[97, 98, 110]⟩, ⟨#[97, 110]⟩, ⟨#[97]⟩, ⟨#[97]⟩, ⟨#[97]⟩]
def fieldsE : Array Value := #[.string ⟨#[]⟩, .string ⟨#[]⟩, .string ⟨#[]⟩, .string ⟨#[]⟩, .string ⟨#[]⟩, .string ⟨#[]⟩, .string ⟨#[]⟩, .string ⟨#[]⟩, .string ⟨#[]⟩, .string ⟨#[]⟩, .string ⟨#[]⟩, .string ⟨#[]⟩, .string ⟨#[]⟩, .string ⟨#[]⟩, .string ⟨#[]⟩, .string ⟨#[]⟩, .string ⟨#[]⟩, .string ⟨#[]⟩, .string ⟨#[]⟩, .string ⟨#[]⟩, .string ⟨#[]⟩, .string ⟨#[]⟩, .string ⟨#[]⟩, .string ⟨#[]⟩, .string ⟨#[]⟩, .string ⟨#[]⟩, .string ⟨#[]⟩, .string ⟨#[]⟩, .string ⟨#[]⟩, .string ⟨#[]⟩, .string ⟨#[]⟩, .string ⟨#[]⟩, .string ⟨#[]⟩, .string ⟨#[]⟩, .string ⟨#[]⟩, .string ⟨#[]⟩, .string ⟨#[]⟩, .string ⟨#[]⟩, .string ⟨#[]⟩]
theorem fieldsV_at : ∀ i, i < 39 → fieldsV[i]? = some (.string (fieldsL.getD i ⟨#[]⟩))
  | 0, _ => rfl
  | 1, _ => rfl
  | 2, _ => rfl
  | 3, _ => rfl
  | 4, _ => rfl
  | 5, _ => rfl
  | 6, _ => rfl
  | 7, _ => rfl
  | 8, _ => rfl
  | 9, _ => rfl
  | 10, _ => rfl
  | 11, _ => rfl
  | 12, _ => rfl
  | 13, _ => rfl
  | 14, _ => rfl
  | 15, _ => rfl
  | 16, _ => rfl
  | 17, _ => rfl
  | 18, _ => rfl
  | 19, _ => rfl
  | 20, _ => rfl
  | 21, _ => rfl
  | 22, _ => rfl
  | 23, _ => rfl
  | 24, _ => rfl
  | 25, _ => rfl
  | 26, _ => rfl
  | 27, _ => rfl
  | 28, _ => rfl
  | 29, _ => rfl
  | 30, _ => rfl
  | 31, _ => rfl
  | 32, _ => rfl
  | 33, _ => rfl
  | 34, _ => rfl
  | 35, _ => rfl
  | 36, _ => rfl
  | 37, _ => rfl
  | 38, _ => rfl
  | n + 39, h => by omega
def fieldsP : Array (Nat × Operand) := #[(0, .const (.string ⟨#[]⟩)), (1, .const (.string ⟨#[97, 110]⟩)), (2, .const (.string ⟨#[97, 98]⟩)), (3, .const (.string ⟨#[97, 98, 99]⟩)), (4, .const (.string ⟨#[97, 98, 99]⟩)), (5, .const (.string ⟨#[97, 98, 99]⟩)), (6, .const (.string ⟨#[97, 98, 99]⟩)), (7, .const (.string ⟨#[97, 98, 99]⟩)), (8, .const (.string ⟨#[97, 98, 99]⟩)), (9, .const (.string ⟨#[97, 98, 99]⟩)), (10, .const (.string ⟨#[97, 98, 99]⟩)), (11, .const (.string ⟨#[97, 98, 99]⟩)), (12, .const (.string ⟨#[97, 98, 99]⟩)), (13, .const (.string ⟨#[97, 98, 99]⟩)), (14, .const (.string ⟨#[97, 98, 99]⟩)), (15, .const (.string ⟨#[97, 98, 99]⟩)), (16, .const (.string ⟨#[97, 98, 99]⟩)), (17, .const (.string ⟨#[97, 98, 99]⟩)), (18, .const (.string ⟨#[97, 98]⟩)), (19, .const (.string ⟨#[97, 98]⟩)), (20, .const (.string ⟨#[97, 98]⟩)), (21, .const (.string ⟨#[110]⟩)), (22, .const (.string ⟨#[97, 110]⟩)), (23, .const (.string ⟨#[97, 110]⟩)), (24, .const (.string ⟨#[97, 110]⟩)), (25, .const (.string ⟨#[97, 110]⟩)), (26, .const (.string ⟨#[110]⟩)), (27, .const (.string ⟨#[]⟩)), (28, .const (.string ⟨#[97, 98]⟩)), (29, .const (.string ⟨#[97, 98]⟩)), (30, .const (.string ⟨#[97, 98, 99]⟩)), (31, .const (.string ⟨#[97, 98, 99]⟩)), (32, .const (.string ⟨#[97, 110]⟩)), (33, .const (.string ⟨#[97, 110]⟩)), (34, .const (.string ⟨#[97, 98, 110]⟩)), (35, .const (.string ⟨#[97, 110]⟩)), (36, .const (.string ⟨#[97]⟩)), (37, .const (.string ⟨#[97]⟩)), (38, .const (.string ⟨#[97]⟩))]
/-- Is the letter c among the first i of s? -/
def hasCh (s : ByteArray) (c : Nat) : Nat → Bool
  | 0 => false
  | i + 1 => hasCh s c i || bAt s i == c
theorem fields_size : ∀ k : Nat, (fieldsL.getD k ⟨#[]⟩).size ≤ 3 := by
  intro k
  rcases Nat.lt_or_ge k 39 with h | h
  · have : ∀ j : Fin 39, (fieldsL.getD j.1 ⟨#[]⟩).size ≤ 3 := by decide
    exact this ⟨k, h⟩
  · rw [List.getD_eq_getElem?_getD, List.getElem?_eq_none (by show 39 ≤ k; exact h)]
    decide
def flagsV (s : ByteArray) (i : Nat) : Array Value := #[.bool (hasCh s 97 i), .bool (hasCh s 98 i), .bool (hasCh s 99 i), .bool (hasCh s 110 i)]
def dflags (op : Int) : Array Value := if op < 1 ∨ 38 < op then #[.bool false, .bool false, .bool false, .bool false] else flagsV (fieldsL.getD op.toNat ⟨#[]⟩) (fieldsL.getD op.toNat ⟨#[]⟩).size
def opIn (op : Int) : Bool := decide (1 ≤ op) && decide (op ≤ 38)
section
variable {P : Program} {w w' : World} {ops : Array Oper} {rest : List Oper} {o : Oper} {a : Act} {Q : Exit → Act → World → Prop}
theorem wpList_value {v : Value} (hg : o.guard = none) (h : (execOp a.eval o).run P w = .ok (.value v) w') (hK : wpList P ops Q rest (a.put o.dst v) w') : wpList P ops Q (o :: rest) a w := by
  refine wpList_plain hg fun K' hK' => ?_
  unfold Oper.wp
  rw [h]
  exact hK' _ _ hK
theorem wpList_skip_ (hg : o.guard = none) (h : (execOp a.eval o).run P w = .ok .skip w') (hK : wpList P ops Q rest (a.put o.dst undef) w') : wpList P ops Q (o :: rest) a w := by
  refine wpList_plain hg fun K' hK' => ?_
  unfold Oper.wp
  rw [h]
  exact hK' _ _ hK
end
set_option maxRecDepth 100000 in
theorem fields_info : (Try.prog.info? 114).map (·.size) = some fieldsV.size := by kernel_rfl
set_option maxRecDepth 100000 in
theorem fields_one : fieldsV.all (·.oneCell') = true := by kernel_rfl
set_option maxRecDepth 100000 in
theorem fields_build {o : Oper} (h : o.op = .build 114 fieldsP) (a : Act) (w : World) : (execOp a.eval o).run Try.prog w = .ok (.value (.agg fieldsV)) w := by
  obtain ⟨dst, op, ty, pos, after, guard⟩ := o
  simp only at h
  subst h
  kernel_rfl
set_option maxRecDepth 100000 in
theorem fields_alloc {o : Oper} (h : o.op = .alloc 114) (a : Act) (w : World) : (execOp a.eval o).run Try.prog w = .ok (.value (.pointer (some ⟨w.heap.size, 0, none⟩))) (w.alloc (.cells fieldsE 114)) := by
  obtain ⟨dst, op, ty, pos, after, guard⟩ := o
  simp only at h
  subst h
  kernel_rfl
theorem fields_store {o : Oper} {x y : Operand} (h : o.op = .store 114 x y) (a : Act) (w : World) (hx : a.eval x = .pointer (some ⟨w.heap.size, 0, none⟩)) (hy : a.eval y = .agg fieldsV) : (execOp a.eval o).run Try.prog (w.alloc (.cells fieldsE 114)) = .ok .skip (w.alloc (.cells fieldsV 114)) := by
  obtain ⟨dst, op, ty, pos, after, guard⟩ := o
  simp only at h
  subst h
  have := run_storeAt_new (P := Try.prog) w 114 fieldsE fieldsV fields_info rfl fields_one
  simp [execOp, hx, hy, this, Result.andThen]
end Go.Proofs.Ytkjfbojmkkdgoaa
namespace Go.Proofs.Ytkjfbojmkkdgoaa
open Go.RowKit
attribute [local go_sem ↓] Go.wp_at_zero Go.wp_at_succ
/-- What stands through Fields. -/
structure FSt (w wr : World) (s : ByteArray) (i : Nat) : Prop where
  b0 : Blk wr w.heap.size 99 #[.bool false, .bool false, .bool false, .bool false]
  b1 : Blk wr (w.heap.size + 1) 114 fieldsV
  b2 : Blk wr (w.heap.size + 2) 99 (flagsV s i)
  below : Below w.heap.size w wr
theorem FSt.start (w : World) (s : ByteArray) : FSt w (((w.alloc (.cells #[.bool false, .bool false, .bool false, .bool false] 99)).alloc (.cells fieldsV 114)).alloc (.cells #[.bool false, .bool false, .bool false, .bool false] 99)) s 0 := by
  have z : (w.alloc (.cells #[.bool false, .bool false, .bool false, .bool false] 99)).heap.size = w.heap.size + 1 := by simp
  have b1 := Blk.new (w.alloc (.cells #[.bool false, .bool false, .bool false, .bool false] 99)) 114 fieldsV
  rw [z] at b1
  have z2 : ((w.alloc (.cells #[.bool false, .bool false, .bool false, .bool false] 99)).alloc (.cells fieldsV 114)).heap.size = w.heap.size + 2 := by simp
  have b2 := Blk.new ((w.alloc (.cells #[.bool false, .bool false, .bool false, .bool false] 99)).alloc (.cells fieldsV 114)) 99 #[.bool false, .bool false, .bool false, .bool false]
  rw [z2] at b2
  exact ⟨((Blk.new w 99 _).alloc _).alloc _, b1.alloc _, b2, ba (ba (ba (Below.refl _ _) _) _) _⟩
theorem FSt.next {w wr : World} {s : ByteArray} {i : Nat} (h : FSt w wr s i) (h1 : bAt s i ≠ 97) (h2 : bAt s i ≠ 98) (h3 : bAt s i ≠ 99) (h4 : bAt s i ≠ 110) : FSt w wr s (i + 1) := by
  have e : flagsV s (i + 1) = flagsV s i := by simp [flagsV, hasCh, h1, h2, h3, h4]
  exact ⟨h.b0, h.b1, by rw [e]; exact h.b2, h.below⟩
theorem FSt.put {w wr : World} {s : ByteArray} {i : Nat} (h : FSt w wr s i) (j : Nat) (hj : (flagsV s i).setIfInBounds j (.bool true) = flagsV s (i + 1)) : FSt w (wr.setCell ⟨w.heap.size + 2, j, none⟩ (.bool true)) s (i + 1) := by
  have hl := h.b2.lt
  have z : Blk (wr.setCell ⟨w.heap.size + 2, j, none⟩ (.bool true)) (w.heap.size + 2) 99 (flagsV s (i + 1)) := hj ▸ h.b2.set_ j (.bool true)
  exact ⟨h.b0.far (by show w.heap.size ≠ w.heap.size + 2; omega) _, h.b1.far (by show w.heap.size + 1 ≠ w.heap.size + 2; omega) _, z, h.below.setCell (by show w.heap.size ≤ w.heap.size + 2; omega) _⟩
theorem flags_put0 (s : ByteArray) (i : Nat) (h : bAt s i = 97) : (flagsV s i).setIfInBounds 0 (.bool true) = flagsV s (i + 1) := by simp [flagsV, hasCh, h]
theorem flags_put1 (s : ByteArray) (i : Nat) (h : bAt s i = 98) : (flagsV s i).setIfInBounds 1 (.bool true) = flagsV s (i + 1) := by simp [flagsV, hasCh, h]
theorem flags_put2 (s : ByteArray) (i : Nat) (h : bAt s i = 99) : (flagsV s i).setIfInBounds 2 (.bool true) = flagsV s (i + 1) := by simp [flagsV, hasCh, h]
theorem flags_put3 (s : ByteArray) (i : Nat) (h : bAt s i = 110) : (flagsV s i).setIfInBounds 3 (.bool true) = flagsV s (i + 1) := by simp [flagsV, hasCh, h]
theorem results_cell2 {P : Program} {fn : Func} {t t2 : Tmp} {ty : TypeId} (h : fn.results = #[.cell t ty, .tmp t2]) {tmps : Array Value} {a : Addr} (ht : tmps[t]?.getD undef = .pointer (some a)) {w : World} {v v2 : Value} (h2 : tmps[t2]?.getD undef = v2) (hv : (loadVar ty a).run P w = .ok v w) : (results fn tmps).run P w = .ok (.tuple #[v, v2]) w := by
  simp [results, h, ht, asAddr, hv, h2]
set_option maxRecDepth 100000 in
set_option maxHeartbeats 16000000 in
theorem fields_c (op : Int) (ho : i64in op) (w : World) : Calls Try.prog 45 #[.int .i64 op] w fun e w' => e = .returned (.tuple #[.agg (dflags op), .bool (opIn op)]) ∧ Below w.heap.size w w' := by
  obtain ⟨o1, o2⟩ := ho
  rcases (show op < 1 ∨ (1 ≤ op ∧ 38 < op) ∨ (1 ≤ op ∧ op ≤ 38) by omega) with g | ⟨g1, g2⟩ | ⟨g1, g2⟩
  · have E1 : Hid (dflags op = #[.bool false, .bool false, .bool false, .bool false]) := if_pos (.inl g)
    have E2 : Hid (opIn op = false) := by show opIn op = false; unfold opIn; simp; omega
    go_enter Try.func45, Try.ntmps45
    go_wp2_with (first
      | (refine wpList_value rfl (fields_build rfl _ _) ?_)
      | (refine wpList_value rfl (fields_alloc rfl _ _) ?_)
      | (refine wpList_skip_ rfl (fields_store rfl _ _ rfl rfl) ?_))
    refine bodyPost_ret (results_cell2 rfl (a := ⟨w.heap.size, 0, none⟩) rfl rfl (run_loadVar_row _ w.heap.size 99 99 #[.bool false, .bool false, .bool false, .bool false] (0, 0) _ (FSt.start w ⟨#[]⟩).b0 Try.underlying99 rfl (by kernel_rfl))) rfl ?_
    exact ⟨by rw [E1.out, E2.out]; rfl, (FSt.start w ⟨#[]⟩).below⟩
  · have E1 : Hid (dflags op = #[.bool false, .bool false, .bool false, .bool false]) := if_pos (.inr g2)
    have E2 : Hid (opIn op = false) := by show opIn op = false; unfold opIn; simp; omega
    go_enter Try.func45, Try.ntmps45
    go_wp2_with (first
      | (refine wpList_value rfl (fields_build rfl _ _) ?_)
      | (refine wpList_value rfl (fields_alloc rfl _ _) ?_)
      | (refine wpList_skip_ rfl (fields_store rfl _ _ rfl rfl) ?_))
    refine bodyPost_ret (results_cell2 rfl (a := ⟨w.heap.size, 0, none⟩) rfl rfl (run_loadVar_row _ w.heap.size 99 99 #[.bool false, .bool false, .bool false, .bool false] (0, 0) _ (FSt.start w ⟨#[]⟩).b0 Try.underlying99 rfl (by kernel_rfl))) rfl ?_
    exact ⟨by rw [E1.out, E2.out]; rfl, (FSt.start w ⟨#[]⟩).below⟩
  · obtain ⟨k, rfl⟩ := Int.eq_ofNat_of_zero_le (show 0 ≤ op by omega)
    have E1 : Hid (dflags (k : Int) = flagsV (fieldsL.getD k ⟨#[]⟩) (fieldsL.getD k ⟨#[]⟩).size) := by
      refine Eq.trans (if_neg (by omega)) ?_
      rw [Int.toNat_natCast]
    have E2 : Hid (opIn (k : Int) = true) := by show opIn (k : Int) = true; unfold opIn; simp; omega
    have CV : Hid (fieldsV[k]? = some (.string (fieldsL.getD k ⟨#[]⟩))) := fieldsV_at k (by omega)
    have SZ : (fieldsL.getD k ⟨#[]⟩).size ≤ 3 := fields_size k
    have S0 := Lib.hid (FSt.start w (fieldsL.getD k ⟨#[]⟩))
    generalize fieldsL.getD k ⟨#[]⟩ = s at *
    go_enter Try.func45, Try.ntmps45
    go_wp2_with (first
      | (refine wpList_value rfl (fields_build rfl _ _) ?_)
      | (refine wpList_value rfl (fields_alloc rfl _ _) ?_)
      | (refine wpList_skip_ rfl (fields_store rfl _ _ rfl rfl) ?_))
    go_loopw [6] (fun iv wx => ∃ i : Nat, i ≤ s.size ∧ iv = .int .i64 (i : Int) ∧ Hid (FSt w wx s i)) (fun iv _ => s.size - (intOf iv).toNat)
    case atStart => exact ⟨0, by omega, rfl, S0⟩
    case round =>
      clear S0
      obtain ⟨i, hi, rfl, S⟩ := hrel
      have l0 := S.out.b0.lt
      have l1 := S.out.b1.lt
      have l2 := S.out.b2.lt
      by_cases hlt : i < s.size
      · have hbk := bAt_eq s hlt
        have hx8 : bAt s i < 256 := by rw [← hbk]; exact UInt8.toNat_lt _
        have cf : wr.cell? ⟨w.heap.size + 1, k, none⟩ = some (.string s) := (S.out.b1.cell k).trans CV.out
        have q0 : wr.cell? ⟨w.heap.size + 1 + 1, 0, none⟩ = some (.bool (hasCh s 97 i)) := S.out.b2.cell 0
        have q1 : wr.cell? ⟨w.heap.size + 1 + 1, 1, none⟩ = some (.bool (hasCh s 98 i)) := S.out.b2.cell 1
        have q2 : wr.cell? ⟨w.heap.size + 1 + 1, 2, none⟩ = some (.bool (hasCh s 99 i)) := S.out.b2.cell 2
        have q3 : wr.cell? ⟨w.heap.size + 1 + 1, 3, none⟩ = some (.bool (hasCh s 110 i)) := S.out.b2.cell 3
        have z0 : ∀ j, wr.frozen? ⟨w.heap.size + 1 + 1, j, none⟩ = false := S.out.b2.frozen
        have P0 := Lib.hid (fun h => S.out.put 0 (flags_put0 s i h))
        have P1 := Lib.hid (fun h => S.out.put 1 (flags_put1 s i h))
        have P2 := Lib.hid (fun h => S.out.put 2 (flags_put2 s i h))
        have P3 := Lib.hid (fun h => S.out.put 3 (flags_put3 s i h))
        have P4 := Lib.hid (fun h1 h2 h3 h4 => S.out.next h1 h2 h3 h4)
        clear S
        generalize bAt s i = x at *
        by_cases x0 : x = 97
        · subst x0
          have E := Lib.hid (P0.out rfl)
          clear P0 P1 P2 P3 P4
          go_wp2_with fail
          go_roundw
          case rel => exact ⟨i + 1, by omega, by go_num, E⟩
          case measure => first | (simp [intOf]; done) | (simp [intOf]; omega)
        by_cases x1 : x = 98
        · subst x1
          have E := Lib.hid (P1.out rfl)
          clear P0 P1 P2 P3 P4 x0
          go_wp2_with fail
          go_roundw
          case rel => exact ⟨i + 1, by omega, by go_num, E⟩
          case measure => first | (simp [intOf]; done) | (simp [intOf]; omega)
        by_cases x2 : x = 99
        · subst x2
          have E := Lib.hid (P2.out rfl)
          clear P0 P1 P2 P3 P4 x0 x1
          go_wp2_with fail
          go_roundw
          case rel => exact ⟨i + 1, by omega, by go_num, E⟩
          case measure => first | (simp [intOf]; done) | (simp [intOf]; omega)
        by_cases x3 : x = 110
        · subst x3
          have E := Lib.hid (P3.out rfl)
          clear P0 P1 P2 P3 P4 x0 x1 x2
          go_wp2_with fail
          go_roundw
          case rel => exact ⟨i + 1, by omega, by go_num, E⟩
          case measure => first | (simp [intOf]; done) | (simp [intOf]; omega)
        have E := Lib.hid (P4.out x0 x1 x2 x3)
        clear P0 P1 P2 P3 P4
        have y0 : ((x : Int) == 97) = false := beq_eq_false_iff_ne.2 (by omega)
        have y1 : ((x : Int) == 98) = false := beq_eq_false_iff_ne.2 (by omega)
        have y2 : ((x : Int) == 99) = false := beq_eq_false_iff_ne.2 (by omega)
        have y3 : ((x : Int) == 110) = false := beq_eq_false_iff_ne.2 (by omega)
        clear x0 x1 x2 x3
        go_wp2_with fail
        go_roundw
        case rel => exact ⟨i + 1, by omega, by go_num, E⟩
        case measure => first | (simp [intOf]; done) | (simp [intOf]; omega)
      · have hi' : i = s.size := by omega
        subst hi'
        have cf : wr.cell? ⟨w.heap.size + 1, k, none⟩ = some (.string s) := (S.out.b1.cell k).trans CV.out
        have q0 : wr.cell? ⟨w.heap.size + 1 + 1, 0, none⟩ = some (.bool (hasCh s 97 s.size)) := S.out.b2.cell 0
        have q1 : wr.cell? ⟨w.heap.size + 1 + 1, 1, none⟩ = some (.bool (hasCh s 98 s.size)) := S.out.b2.cell 1
        have q2 : wr.cell? ⟨w.heap.size + 1 + 1, 2, none⟩ = some (.bool (hasCh s 99 s.size)) := S.out.b2.cell 2
        have q3 : wr.cell? ⟨w.heap.size + 1 + 1, 3, none⟩ = some (.bool (hasCh s 110 s.size)) := S.out.b2.cell 3
        have z0 : ∀ j, wr.frozen? ⟨w.heap.size, j, none⟩ = false := S.out.b0.frozen
        have o0 : wr.cell? ⟨w.heap.size, 0, none⟩ = some (.bool false) := S.out.b0.cell 0
        have o1 : wr.cell? ⟨w.heap.size, 1, none⟩ = some (.bool false) := S.out.b0.cell 1
        have o2 : wr.cell? ⟨w.heap.size, 2, none⟩ = some (.bool false) := S.out.b0.cell 2
        have o3 : wr.cell? ⟨w.heap.size, 3, none⟩ = some (.bool false) := S.out.b0.cell 3
        have hb := (((S.out.b0.set_ 0 (.bool (hasCh s 97 s.size))).set_ 1 (.bool (hasCh s 98 s.size))).set_ 2 (.bool (hasCh s 99 s.size))).set_ 3 (.bool (hasCh s 110 s.size))
        have HB : Hid _ := hb
        have HW : Hid _ := (((S.out.below.setCell (p := ⟨w.heap.size, 0, none⟩) (Nat.le_refl _) (.bool (hasCh s 97 s.size))).setCell (p := ⟨w.heap.size, 1, none⟩) (Nat.le_refl _) (.bool (hasCh s 98 s.size))).setCell (p := ⟨w.heap.size, 2, none⟩) (Nat.le_refl _) (.bool (hasCh s 99 s.size))).setCell (p := ⟨w.heap.size, 3, none⟩) (Nat.le_refl _) (.bool (hasCh s 110 s.size))
        clear hb
        go_wp2_with fail
        refine bodyPost_ret (results_cell2 rfl (a := ⟨w.heap.size, 0, none⟩) rfl rfl (run_loadVar_row _ w.heap.size 99 99 (flagsV s s.size) (0, 0) _ HB.out Try.underlying99 rfl (by kernel_rfl))) rfl ?_
        exact ⟨by rw [E1.out, E2.out]; rfl, HW.out⟩
end Go.Proofs.Ytkjfbojmkkdgoaa
