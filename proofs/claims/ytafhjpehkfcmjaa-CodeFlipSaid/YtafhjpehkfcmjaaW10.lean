/- the document's Fields: the walk. -/
import Derived.Test.YtafhjpehkfcmjaaW9
set_option linter.unusedVariables false
set_option linter.unusedSimpArgs false
namespace Go.Proofs.Ytafhjpehkfcmjaa
open Go.RowKit
attribute [local go_sem ↓] Go.wp_at_zero Go.wp_at_succ
/-- What stands through Fields. -/
structure FSt (w wr : World) (s : ByteArray) (i : Nat) : Prop where
  b0 : Blk wr w.heap.size 72 #[.bool false, .bool false, .bool false, .bool false]
  b1 : Blk wr (w.heap.size + 1) 94 fieldsV
  b2 : Blk wr (w.heap.size + 2) 72 (flagsV s i)
  below : Below w.heap.size w wr
theorem FSt.start (w : World) (s : ByteArray) : FSt w (((w.alloc (.cells #[.bool false, .bool false, .bool false, .bool false] 72)).alloc (.cells fieldsV 94)).alloc (.cells #[.bool false, .bool false, .bool false, .bool false] 72)) s 0 := by
  have z : (w.alloc (.cells #[.bool false, .bool false, .bool false, .bool false] 72)).heap.size = w.heap.size + 1 := by simp
  have b1 := Blk.new (w.alloc (.cells #[.bool false, .bool false, .bool false, .bool false] 72)) 94 fieldsV
  rw [z] at b1
  have z2 : ((w.alloc (.cells #[.bool false, .bool false, .bool false, .bool false] 72)).alloc (.cells fieldsV 94)).heap.size = w.heap.size + 2 := by simp
  have b2 := Blk.new ((w.alloc (.cells #[.bool false, .bool false, .bool false, .bool false] 72)).alloc (.cells fieldsV 94)) 72 #[.bool false, .bool false, .bool false, .bool false]
  rw [z2] at b2
  exact ⟨((Blk.new w 72 _).alloc _).alloc _, b1.alloc _, b2, ba (ba (ba (Below.refl _ _) _) _) _⟩
theorem FSt.next {w wr : World} {s : ByteArray} {i : Nat} (h : FSt w wr s i) (h1 : bAt s i ≠ 97) (h2 : bAt s i ≠ 98) (h3 : bAt s i ≠ 99) (h4 : bAt s i ≠ 110) : FSt w wr s (i + 1) := by
  have e : flagsV s (i + 1) = flagsV s i := by simp [flagsV, hasCh, h1, h2, h3, h4]
  exact ⟨h.b0, h.b1, by rw [e]; exact h.b2, h.below⟩
theorem FSt.put {w wr : World} {s : ByteArray} {i : Nat} (h : FSt w wr s i) (j : Nat) (hj : (flagsV s i).setIfInBounds j (.bool true) = flagsV s (i + 1)) : FSt w (wr.setCell ⟨w.heap.size + 2, j, none⟩ (.bool true)) s (i + 1) := by
  have hl := h.b2.lt
  have z : Blk (wr.setCell ⟨w.heap.size + 2, j, none⟩ (.bool true)) (w.heap.size + 2) 72 (flagsV s (i + 1)) := hj ▸ h.b2.set_ j (.bool true)
  exact ⟨h.b0.far (by show w.heap.size ≠ w.heap.size + 2; omega) _, h.b1.far (by show w.heap.size + 1 ≠ w.heap.size + 2; omega) _, z, h.below.setCell (by show w.heap.size ≤ w.heap.size + 2; omega) _⟩
theorem flags_put0 (s : ByteArray) (i : Nat) (h : bAt s i = 97) : (flagsV s i).setIfInBounds 0 (.bool true) = flagsV s (i + 1) := by simp [flagsV, hasCh, h]
theorem flags_put1 (s : ByteArray) (i : Nat) (h : bAt s i = 98) : (flagsV s i).setIfInBounds 1 (.bool true) = flagsV s (i + 1) := by simp [flagsV, hasCh, h]
theorem flags_put2 (s : ByteArray) (i : Nat) (h : bAt s i = 99) : (flagsV s i).setIfInBounds 2 (.bool true) = flagsV s (i + 1) := by simp [flagsV, hasCh, h]
theorem flags_put3 (s : ByteArray) (i : Nat) (h : bAt s i = 110) : (flagsV s i).setIfInBounds 3 (.bool true) = flagsV s (i + 1) := by simp [flagsV, hasCh, h]
theorem results_cell2 {P : Program} {fn : Func} {t t2 : Tmp} {ty : TypeId} (h : fn.results = #[.cell t ty, .tmp t2]) {tmps : Array Value} {a : Addr} (ht : tmps[t]?.getD undef = .pointer (some a)) {w : World} {v v2 : Value} (h2 : tmps[t2]?.getD undef = v2) (hv : (loadVar ty a).run P w = .ok v w) : (results fn tmps).run P w = .ok (.tuple #[v, v2]) w := by
  simp [results, h, ht, asAddr, hv, h2]
set_option maxRecDepth 100000 in
set_option maxHeartbeats 16000000 in
theorem fields_c (op : Int) (ho : i64in op) (w : World) : Calls Try.prog 34 #[.int .i64 op] w fun e w' => e = .returned (.tuple #[.agg (dflags op), .bool (opIn op)]) ∧ Below w.heap.size w w' := by
  obtain ⟨o1, o2⟩ := ho
  rcases (show op < 1 ∨ (1 ≤ op ∧ 38 < op) ∨ (1 ≤ op ∧ op ≤ 38) by omega) with g | ⟨g1, g2⟩ | ⟨g1, g2⟩
  · have E1 : Hid (dflags op = #[.bool false, .bool false, .bool false, .bool false]) := if_pos (.inl g)
    have E2 : Hid (opIn op = false) := by show opIn op = false; unfold opIn; simp; omega
    go_enter Try.func34, Try.ntmps34
    go_wp2_with (first
      | (refine wpList_value rfl (fields_build rfl _ _) ?_)
      | (refine wpList_value rfl (fields_alloc rfl _ _) ?_)
      | (refine wpList_skip_ rfl (fields_store rfl _ _ rfl rfl) ?_))
    refine bodyPost_ret (results_cell2 rfl (a := ⟨w.heap.size, 0, none⟩) rfl rfl (run_loadVar_row _ w.heap.size 72 72 #[.bool false, .bool false, .bool false, .bool false] (0, 0) _ (FSt.start w ⟨#[]⟩).b0 Try.underlying72 rfl (by kernel_rfl))) rfl ?_
    exact ⟨by rw [E1.out, E2.out]; rfl, (FSt.start w ⟨#[]⟩).below⟩
  · have E1 : Hid (dflags op = #[.bool false, .bool false, .bool false, .bool false]) := if_pos (.inr g2)
    have E2 : Hid (opIn op = false) := by show opIn op = false; unfold opIn; simp; omega
    go_enter Try.func34, Try.ntmps34
    go_wp2_with (first
      | (refine wpList_value rfl (fields_build rfl _ _) ?_)
      | (refine wpList_value rfl (fields_alloc rfl _ _) ?_)
      | (refine wpList_skip_ rfl (fields_store rfl _ _ rfl rfl) ?_))
    refine bodyPost_ret (results_cell2 rfl (a := ⟨w.heap.size, 0, none⟩) rfl rfl (run_loadVar_row _ w.heap.size 72 72 #[.bool false, .bool false, .bool false, .bool false] (0, 0) _ (FSt.start w ⟨#[]⟩).b0 Try.underlying72 rfl (by kernel_rfl))) rfl ?_
    exact ⟨by rw [E1.out, E2.out]; rfl, (FSt.start w ⟨#[]⟩).below⟩
  · obtain ⟨k, rfl⟩ := Int.eq_ofNat_of_zero_le (show 0 ≤ op by omega)
    have E1 : Hid (dflags (k : Int) = flagsV (fieldsL.getD k ⟨#[]⟩) (fieldsL.getD k ⟨#[]⟩).size) := by
      refine Eq.trans (if_neg (by omega)) ?_
      rw [Int.toNat_natCast]
    have E2 : Hid (opIn (k : Int) = true) := by show opIn (k : Int) = true; unfold opIn; simp; omega
    have CV : Hid (fieldsV[k]? = some (.string (fieldsL.getD k ⟨#[]⟩))) := fieldsV_at k (by omega)
    have SZ : (fieldsL.getD k ⟨#[]⟩).size ≤ 3 := fields_size k
    have S0 := Lib.hid (FSt.start w (fieldsL.getD k ⟨#[]⟩))
    generalize fieldsL.getD k ⟨#[]⟩ = s at *
    go_enter Try.func34, Try.ntmps34
    go_wp2_with (first
      | (refine wpList_value rfl (fields_build rfl _ _) ?_)
      | (refine wpList_value rfl (fields_alloc rfl _ _) ?_)
      | (refine wpList_skip_ rfl (fields_store rfl _ _ rfl rfl) ?_))
    go_loopw [6] (fun iv wx => ∃ i : Nat, i ≤ s.size ∧ iv = .int .i64 (i : Int) ∧ Hid (FSt w wx s i)) (fun iv _ => s.size - (intOf iv).toNat)
    case atStart => exact ⟨0, by omega, rfl, S0⟩
    case round =>
      clear S0
      obtain ⟨i, hi, rfl, S⟩ := hrel
      have l0 := S.out.b0.lt
      have l1 := S.out.b1.lt
      have l2 := S.out.b2.lt
      by_cases hlt : i < s.size
      · have hbk := bAt_eq s hlt
        have hx8 : bAt s i < 256 := by rw [← hbk]; exact UInt8.toNat_lt _
        have cf : wr.cell? ⟨w.heap.size + 1, k, none⟩ = some (.string s) := (S.out.b1.cell k).trans CV.out
        have q0 : wr.cell? ⟨w.heap.size + 1 + 1, 0, none⟩ = some (.bool (hasCh s 97 i)) := S.out.b2.cell 0
        have q1 : wr.cell? ⟨w.heap.size + 1 + 1, 1, none⟩ = some (.bool (hasCh s 98 i)) := S.out.b2.cell 1
        have q2 : wr.cell? ⟨w.heap.size + 1 + 1, 2, none⟩ = some (.bool (hasCh s 99 i)) := S.out.b2.cell 2
        have q3 : wr.cell? ⟨w.heap.size + 1 + 1, 3, none⟩ = some (.bool (hasCh s 110 i)) := S.out.b2.cell 3
        have z0 : ∀ j, wr.frozen? ⟨w.heap.size + 1 + 1, j, none⟩ = false := S.out.b2.frozen
        have P0 := Lib.hid (fun h => S.out.put 0 (flags_put0 s i h))
        have P1 := Lib.hid (fun h => S.out.put 1 (flags_put1 s i h))
        have P2 := Lib.hid (fun h => S.out.put 2 (flags_put2 s i h))
        have P3 := Lib.hid (fun h => S.out.put 3 (flags_put3 s i h))
        have P4 := Lib.hid (fun h1 h2 h3 h4 => S.out.next h1 h2 h3 h4)
        clear S
        generalize bAt s i = x at *
        by_cases x0 : x = 97
        · subst x0
          have E := Lib.hid (P0.out rfl)
          clear P0 P1 P2 P3 P4
          go_wp2_with fail
          go_roundw
          case rel => exact ⟨i + 1, by omega, by go_num, E⟩
          case measure => first | (simp [intOf]; done) | (simp [intOf]; omega)
        by_cases x1 : x = 98
        · subst x1
          have E := Lib.hid (P1.out rfl)
          clear P0 P1 P2 P3 P4 x0
          go_wp2_with fail
          go_roundw
          case rel => exact ⟨i + 1, by omega, by go_num, E⟩
          case measure => first | (simp [intOf]; done) | (simp [intOf]; omega)
        by_cases x2 : x = 99
        · subst x2
          have E := Lib.hid (P2.out rfl)
          clear P0 P1 P2 P3 P4 x0 x1
          go_wp2_with fail
          go_roundw
          case rel => exact ⟨i + 1, by omega, by go_num, E⟩
          case measure => first | (simp [intOf]; done) | (simp [intOf]; omega)
        by_cases x3 : x = 110
        · subst x3
          have E := Lib.hid (P3.out rfl)
          clear P0 P1 P2 P3 P4 x0 x1 x2
          go_wp2_with fail
          go_roundw
          case rel => exact ⟨i + 1, by omega, by go_num, E⟩
          case measure => first | (simp [intOf]; done) | (simp [intOf]; omega)
        have E := Lib.hid (P4.out x0 x1 x2 x3)
        clear P0 P1 P2 P3 P4
        have y0 : ((x : Int) == 97) = false := beq_eq_false_iff_ne.2 (by omega)
        have y1 : ((x : Int) == 98) = false := beq_eq_false_iff_ne.2 (by omega)
        have y2 : ((x : Int) == 99) = false := beq_eq_false_iff_ne.2 (by omega)
        have y3 : ((x : Int) == 110) = false := beq_eq_false_iff_ne.2 (by omega)
        clear x0 x1 x2 x3
        go_wp2_with fail
        go_roundw
        case rel => exact ⟨i + 1, by omega, by go_num, E⟩
        case measure => first | (simp [intOf]; done) | (simp [intOf]; omega)
      · have hi' : i = s.size := by omega
        subst hi'
        have cf : wr.cell? ⟨w.heap.size + 1, k, none⟩ = some (.string s) := (S.out.b1.cell k).trans CV.out
        have q0 : wr.cell? ⟨w.heap.size + 1 + 1, 0, none⟩ = some (.bool (hasCh s 97 s.size)) := S.out.b2.cell 0
        have q1 : wr.cell? ⟨w.heap.size + 1 + 1, 1, none⟩ = some (.bool (hasCh s 98 s.size)) := S.out.b2.cell 1
        have q2 : wr.cell? ⟨w.heap.size + 1 + 1, 2, none⟩ = some (.bool (hasCh s 99 s.size)) := S.out.b2.cell 2
        have q3 : wr.cell? ⟨w.heap.size + 1 + 1, 3, none⟩ = some (.bool (hasCh s 110 s.size)) := S.out.b2.cell 3
        have z0 : ∀ j, wr.frozen? ⟨w.heap.size, j, none⟩ = false := S.out.b0.frozen
        have o0 : wr.cell? ⟨w.heap.size, 0, none⟩ = some (.bool false) := S.out.b0.cell 0
        have o1 : wr.cell? ⟨w.heap.size, 1, none⟩ = some (.bool false) := S.out.b0.cell 1
        have o2 : wr.cell? ⟨w.heap.size, 2, none⟩ = some (.bool false) := S.out.b0.cell 2
        have o3 : wr.cell? ⟨w.heap.size, 3, none⟩ = some (.bool false) := S.out.b0.cell 3
        have hb := (((S.out.b0.set_ 0 (.bool (hasCh s 97 s.size))).set_ 1 (.bool (hasCh s 98 s.size))).set_ 2 (.bool (hasCh s 99 s.size))).set_ 3 (.bool (hasCh s 110 s.size))
        have HB : Hid _ := hb
        have HW : Hid _ := (((S.out.below.setCell (p := ⟨w.heap.size, 0, none⟩) (Nat.le_refl _) (.bool (hasCh s 97 s.size))).setCell (p := ⟨w.heap.size, 1, none⟩) (Nat.le_refl _) (.bool (hasCh s 98 s.size))).setCell (p := ⟨w.heap.size, 2, none⟩) (Nat.le_refl _) (.bool (hasCh s 99 s.size))).setCell (p := ⟨w.heap.size, 3, none⟩) (Nat.le_refl _) (.bool (hasCh s 110 s.size))
        clear hb
        go_wp2_with fail
        refine bodyPost_ret (results_cell2 rfl (a := ⟨w.heap.size, 0, none⟩) rfl rfl (run_loadVar_row _ w.heap.size 72 72 (flagsV s s.size) (0, 0) _ HB.out Try.underlying72 rfl (by kernel_rfl))) rfl ?_
        exact ⟨by rw [E1.out, E2.out]; rfl, HW.out⟩
end Go.Proofs.Ytafhjpehkfcmjaa
