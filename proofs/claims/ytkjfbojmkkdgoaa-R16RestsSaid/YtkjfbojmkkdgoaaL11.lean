/- R16Rests' full: the walk. -/
import Derived.Test.YtkjfbojmkkdgoaaL10b
import Derived.BigQuiet
set_option linter.unusedVariables false
set_option linter.unusedSimpArgs false
namespace Go.Proofs.Ytkjfbojmkkdgoaa
open Go.RowKit
attribute [local go_sem ↓] Go.wp_at_zero Go.wp_at_succ
def lastV : Array Value := #[.int .i64 27, .int .i64 0, .int .i64 0, .int .i64 0, .int .i64 0, .int .i64 35, .int .i64 4, .int .i64 0, .int .i64 0, .int .i64 6, .int .i64 38, .int .i64 4, .int .i64 0, .int .i64 0, .int .i64 0, .int .i64 36, .int .i64 4, .int .i64 0, .int .i64 0, .int .i64 0]
def endsV : Array Value := #[.slice none 0 0, .int .i64 1, .int .i64 0, .int .i64 0, .int .i64 0, .int .i64 0, .int .i64 0, .slice none 0 0, .int .i64 2, .int .i64 6, .int .i64 5, .int .i64 0, .int .i64 0, .int .i64 0, .slice none 0 0, .int .i64 3, .int .i64 5, .int .i64 0, .int .i64 0, .int .i64 0, .int .i64 0, .slice none 0 0, .int .i64 2, .int .i64 5, .int .i64 0, .int .i64 0, .int .i64 0, .int .i64 0]
theorem last_one : ∀ v ∈ lastV.toList, v.oneCell' = true := by
  intro v hv
  have h : lastV.toList.all (·.oneCell') = true := by kernel_rfl
  exact List.all_eq_true.1 h v hv
theorem ends_one : ∀ v ∈ endsV.toList, v.oneCell' = true := by
  intro v hv
  have h : endsV.toList.all (·.oneCell') = true := by kernel_rfl
  exact List.all_eq_true.1 h v hv
theorem size96 (w : World) : (sizeOf 96).run Try.prog w = .ok lastV.size w := by kernel_rfl
theorem size97 (w : World) : (sizeOf 97).run Try.prog w = .ok endsV.size w := by kernel_rfl

set_option maxRecDepth 100000 in
set_option maxHeartbeats 8000000 in
theorem full_c0 (w : World) : Calls Try.prog 27 #[.int .i64 0] w fun e w' => e = .returned (.bool true) ∧ Below w.heap.size w w' := by
  have HI := Lib.hid (fun (w1 : World) (b1 : Nat) (cs : Array Value) (hB : Blk w1 b1 54 cs) (hcs : cs.toList = manyC insL (insOf (fullL ⟨27, 0, 0, 0, 0⟩)) 9) => one_full full_0 (one_c w1 (fun x => x < w1.heap.size) (fun _ h => h) (some ⟨b1, 0, none⟩) 9 9 (insOf (fullL ⟨27, 0, 0, 0, 0⟩)) 2 ⟨by decide, by decide⟩ (IL_blk hB hcs (full_in ⟨27, 0, 0, 0, 0⟩ (by refine ⟨?_, ?_, ?_, ?_, ?_⟩ <;> exact ⟨by decide, by decide⟩)) (by decide) hB.lt) (by decide) (fun h => by cases h) (by decide) (full_code _ (by kernel_rfl)) 2 0 (by decide) (by decide) (by decide) (by decide) 1073741824 (by decide) (by decide) (by have hk := madeN_le (fullK ⟨27, 0, 0, 0, 0⟩) (1073741824 : Int).toNat (newQ (fullK ⟨27, 0, 0, 0, 0⟩) []); have ht : (1073741824 : Int).toNat = 1073741824 := rfl; rw [ht] at hk ⊢; show ((madeN (fullK ⟨27, 0, 0, 0, 0⟩) 1073741824 (newQ (fullK ⟨27, 0, 0, 0, 0⟩) []) : Nat) : Int) < _; omega)))
  go_enter Try.func27, Try.ntmps27
  go_wp2_with (first
    | (refine step_lay (T := 96) (cs := lastV) rfl rfl size96 rfl rfl (blk_at rfl) rfl last_one ?_; go_must (intro w1 b1 s1 o1; have O1 := Lib.hid (((Only.refl (fun _ => False) w).alloc _).trans o1 (fun b h1 h2 => by have h3 : b = w.heap.size := h2; omega) : Only (fun _ => False) w w1); have B1 := Lib.hid b1; have S1 : w1.heap.size = w.heap.size + 1 := (s1.trans (by simp)); clear b1 s1 o1))
    | (refine step_lay (T := 97) (cs := endsV) rfl rfl size97 rfl rfl (blk_at (by simp only [S1])) rfl ends_one ?_; go_must (intro w2 b1 s1 o1; have B2 := Lib.hid b1; have S2 : w2.heap.size = w.heap.size + 2 := (s1.trans (by simp [S1])); have B12 := Lib.hid ((B1.out.alloc _).only o1 (by omega)); have O2 := Lib.hid ((O1.out.alloc _).trans o1 (fun b h1 h2 => by have h3 : b = w.heap.size + 1 := h2; omega) : Only (fun _ => False) w w2); clear b1 s1 o1 B1 O1 S1 w1; have y0 : w2.cell? ⟨w.heap.size, 0, none⟩ = some (.int .i64 27) := B12.out.cell 0; have y1 : w2.cell? ⟨w.heap.size, 1, none⟩ = some (.int .i64 0) := B12.out.cell 1; have y2 : w2.cell? ⟨w.heap.size, 2, none⟩ = some (.int .i64 0) := B12.out.cell 2; have y3 : w2.cell? ⟨w.heap.size, 3, none⟩ = some (.int .i64 0) := B12.out.cell 3; have y4 : w2.cell? ⟨w.heap.size, 4, none⟩ = some (.int .i64 0) := B12.out.cell 4)))
  refine (HI.out _ _ _ (blk_at (by simp only [S2])) (by kernel_rfl)).mono ?_
  rintro e w3 ⟨eb, n, cap, rfl, hn, u0, u1, u2, u3, hb3⟩
  have O3 := Lib.hid (((Only.refl (fun _ => False) w2).alloc _).trans (Only.ofBelow (F := fun _ => False) hb3) fun _ _ h => h)
  have hlt2 : w.heap.size + 2 < w3.heap.size := by have := hb3.size; simp [S2] at this; omega
  have B3 := Lib.hid ((B2.out.only O3.out (fun h => h)).alloc (.cells #[.slice (some ⟨eb, 0, none⟩) n cap, .int .i64 1, .int .i64 0, .int .i64 0, .int .i64 2097156, .int .i64 0, .int .i64 1] 44))
  have BE := Lib.hid (blk_at rfl : Blk (w3.alloc (.cells #[.slice (some ⟨eb, 0, none⟩) n cap, .int .i64 1, .int .i64 0, .int .i64 0, .int .i64 2097156, .int .i64 0, .int .i64 1] 44)) w3.heap.size 44 #[.slice (some ⟨eb, 0, none⟩) n cap, .int .i64 1, .int .i64 0, .int .i64 0, .int .i64 2097156, .int .i64 0, .int .i64 1])
  have V := Lib.hid (fun (o : Nat) (x : Value) (h : w3.cell? ⟨eb, o, none⟩ = some x) => (World.cell?_alloc_past (w := w3) (.cells #[.slice (some ⟨eb, 0, none⟩) n cap, .int .i64 1, .int .i64 0, .int .i64 0, .int .i64 2097156, .int .i64 0, .int .i64 1] 44) eb o (World.block_lt_of_cell? w3 _ h)).trans h)
  have v0 := V.out _ _ u0
  have v1 := V.out _ _ u1
  have v2 := V.out _ _ u2
  have v3 := V.out _ _ u3
  have OF := Lib.hid (((O2.out.trans O3.out fun _ _ h => h).alloc (.cells #[.slice (some ⟨eb, 0, none⟩) n cap, .int .i64 1, .int .i64 0, .int .i64 0, .int .i64 2097156, .int .i64 0, .int .i64 1] 44)))
  clear y0 y1 y2 y3 y4 B12 O2 hb3 u0 u1 u2 u3 V B2 O3 HI
  go_wp2_with fail
  generalize World.alloc _ _ = w4 at *
  generalize w3.heap.size = s4 at *
  have x0 := BE.out.cell 0
  have x1 := BE.out.cell 1
  have x2 := BE.out.cell 2
  have x3 := BE.out.cell 3
  simp only [List.getElem?_toArray, List.getElem?_cons_zero, List.getElem?_cons_succ] at x0 x1 x2 x3
  have z1 : w4.cell? ⟨w.heap.size + 1, 1, none⟩ = some (.int .i64 1) := B3.out.cell 1
  have z2 : w4.cell? ⟨w.heap.size + 1, 2, none⟩ = some (.int .i64 0) := B3.out.cell 2
  have z3 : w4.cell? ⟨w.heap.size + 1, 3, none⟩ = some (.int .i64 0) := B3.out.cell 3
  have hi1 : (1048575 : Int) < (n : Int) := by omega
  have hi2 : 1048575 < n := by omega
  have hi3 : 0 < n := by omega
  have OG := Lib.hid (fun k => (OF.out.drewN k).toBelow (Nat.le_refl _) fun _ _ h => h)
  clear BE B3 OF S2 hlt2 w2 hn
  go_quiet (fail)
  go_wp2_with fail
  go_ret
  exact ⟨rfl, OG.out nq⟩

set_option maxRecDepth 100000 in
set_option maxHeartbeats 8000000 in
theorem full_c1 (w : World) : Calls Try.prog 27 #[.int .i64 1] w fun e w' => e = .returned (.bool true) ∧ Below w.heap.size w w' := by
  have HI := Lib.hid (fun (w1 : World) (b1 : Nat) (cs : Array Value) (hB : Blk w1 b1 54 cs) (hcs : cs.toList = manyC insL (insOf (fullL ⟨35, 4, 0, 0, 6⟩)) 9) => one_full full_1 (one_c w1 (fun x => x < w1.heap.size) (fun _ h => h) (some ⟨b1, 0, none⟩) 9 9 (insOf (fullL ⟨35, 4, 0, 0, 6⟩)) 2 ⟨by decide, by decide⟩ (IL_blk hB hcs (full_in ⟨35, 4, 0, 0, 6⟩ (by refine ⟨?_, ?_, ?_, ?_, ?_⟩ <;> exact ⟨by decide, by decide⟩)) (by decide) hB.lt) (by decide) (fun h => by cases h) (by decide) (full_code _ (by kernel_rfl)) 2 0 (by decide) (by decide) (by decide) (by decide) 1073741824 (by decide) (by decide) (by have hk := madeN_le (fullK ⟨35, 4, 0, 0, 6⟩) (1073741824 : Int).toNat (newQ (fullK ⟨35, 4, 0, 0, 6⟩) []); have ht : (1073741824 : Int).toNat = 1073741824 := rfl; rw [ht] at hk ⊢; show ((madeN (fullK ⟨35, 4, 0, 0, 6⟩) 1073741824 (newQ (fullK ⟨35, 4, 0, 0, 6⟩) []) : Nat) : Int) < _; omega)))
  go_enter Try.func27, Try.ntmps27
  go_wp2_with (first
    | (refine step_lay (T := 96) (cs := lastV) rfl rfl size96 rfl rfl (blk_at rfl) rfl last_one ?_; go_must (intro w1 b1 s1 o1; have O1 := Lib.hid (((Only.refl (fun _ => False) w).alloc _).trans o1 (fun b h1 h2 => by have h3 : b = w.heap.size := h2; omega) : Only (fun _ => False) w w1); have B1 := Lib.hid b1; have S1 : w1.heap.size = w.heap.size + 1 := (s1.trans (by simp)); clear b1 s1 o1))
    | (refine step_lay (T := 97) (cs := endsV) rfl rfl size97 rfl rfl (blk_at (by simp only [S1])) rfl ends_one ?_; go_must (intro w2 b1 s1 o1; have B2 := Lib.hid b1; have S2 : w2.heap.size = w.heap.size + 2 := (s1.trans (by simp [S1])); have B12 := Lib.hid ((B1.out.alloc _).only o1 (by omega)); have O2 := Lib.hid ((O1.out.alloc _).trans o1 (fun b h1 h2 => by have h3 : b = w.heap.size + 1 := h2; omega) : Only (fun _ => False) w w2); clear b1 s1 o1 B1 O1 S1 w1; have y0 : w2.cell? ⟨w.heap.size, 5, none⟩ = some (.int .i64 35) := B12.out.cell 5; have y1 : w2.cell? ⟨w.heap.size, 6, none⟩ = some (.int .i64 4) := B12.out.cell 6; have y2 : w2.cell? ⟨w.heap.size, 7, none⟩ = some (.int .i64 0) := B12.out.cell 7; have y3 : w2.cell? ⟨w.heap.size, 8, none⟩ = some (.int .i64 0) := B12.out.cell 8; have y4 : w2.cell? ⟨w.heap.size, 9, none⟩ = some (.int .i64 6) := B12.out.cell 9)))
  refine (HI.out _ _ _ (blk_at (by simp only [S2])) (by kernel_rfl)).mono ?_
  rintro e w3 ⟨eb, n, cap, rfl, hn, u0, u1, u2, u3, hb3⟩
  have O3 := Lib.hid (((Only.refl (fun _ => False) w2).alloc _).trans (Only.ofBelow (F := fun _ => False) hb3) fun _ _ h => h)
  have hlt2 : w.heap.size + 2 < w3.heap.size := by have := hb3.size; simp [S2] at this; omega
  have B3 := Lib.hid ((B2.out.only O3.out (fun h => h)).alloc (.cells #[.slice (some ⟨eb, 0, none⟩) n cap, .int .i64 2, .int .i64 6, .int .i64 5, .int .i64 2097156, .int .i64 0, .int .i64 1] 44))
  have BE := Lib.hid (blk_at rfl : Blk (w3.alloc (.cells #[.slice (some ⟨eb, 0, none⟩) n cap, .int .i64 2, .int .i64 6, .int .i64 5, .int .i64 2097156, .int .i64 0, .int .i64 1] 44)) w3.heap.size 44 #[.slice (some ⟨eb, 0, none⟩) n cap, .int .i64 2, .int .i64 6, .int .i64 5, .int .i64 2097156, .int .i64 0, .int .i64 1])
  have V := Lib.hid (fun (o : Nat) (x : Value) (h : w3.cell? ⟨eb, o, none⟩ = some x) => (World.cell?_alloc_past (w := w3) (.cells #[.slice (some ⟨eb, 0, none⟩) n cap, .int .i64 2, .int .i64 6, .int .i64 5, .int .i64 2097156, .int .i64 0, .int .i64 1] 44) eb o (World.block_lt_of_cell? w3 _ h)).trans h)
  have v0 := V.out _ _ u0
  have v1 := V.out _ _ u1
  have v2 := V.out _ _ u2
  have v3 := V.out _ _ u3
  have OF := Lib.hid (((O2.out.trans O3.out fun _ _ h => h).alloc (.cells #[.slice (some ⟨eb, 0, none⟩) n cap, .int .i64 2, .int .i64 6, .int .i64 5, .int .i64 2097156, .int .i64 0, .int .i64 1] 44)))
  clear y0 y1 y2 y3 y4 B12 O2 hb3 u0 u1 u2 u3 V B2 O3 HI
  go_wp2_with fail
  generalize World.alloc _ _ = w4 at *
  generalize w3.heap.size = s4 at *
  have x0 := BE.out.cell 0
  have x1 := BE.out.cell 1
  have x2 := BE.out.cell 2
  have x3 := BE.out.cell 3
  simp only [List.getElem?_toArray, List.getElem?_cons_zero, List.getElem?_cons_succ] at x0 x1 x2 x3
  have z1 : w4.cell? ⟨w.heap.size + 1, 8, none⟩ = some (.int .i64 2) := B3.out.cell 8
  have z2 : w4.cell? ⟨w.heap.size + 1, 9, none⟩ = some (.int .i64 6) := B3.out.cell 9
  have z3 : w4.cell? ⟨w.heap.size + 1, 10, none⟩ = some (.int .i64 5) := B3.out.cell 10
  have hi1 : (1048575 : Int) < (n : Int) := by omega
  have hi2 : 1048575 < n := by omega
  have hi3 : 0 < n := by omega
  have OG := Lib.hid (fun k => (OF.out.drewN k).toBelow (Nat.le_refl _) fun _ _ h => h)
  clear BE B3 OF S2 hlt2 w2 hn
  go_quiet (fail)
  go_wp2_with fail
  go_ret
  exact ⟨rfl, OG.out nq⟩

set_option maxRecDepth 100000 in
set_option maxHeartbeats 8000000 in
theorem full_c2 (w : World) : Calls Try.prog 27 #[.int .i64 2] w fun e w' => e = .returned (.bool true) ∧ Below w.heap.size w w' := by
  have HI := Lib.hid (fun (w1 : World) (b1 : Nat) (cs : Array Value) (hB : Blk w1 b1 54 cs) (hcs : cs.toList = manyC insL (insOf (fullL ⟨38, 4, 0, 0, 0⟩)) 9) => one_full full_2 (one_c w1 (fun x => x < w1.heap.size) (fun _ h => h) (some ⟨b1, 0, none⟩) 9 9 (insOf (fullL ⟨38, 4, 0, 0, 0⟩)) 2 ⟨by decide, by decide⟩ (IL_blk hB hcs (full_in ⟨38, 4, 0, 0, 0⟩ (by refine ⟨?_, ?_, ?_, ?_, ?_⟩ <;> exact ⟨by decide, by decide⟩)) (by decide) hB.lt) (by decide) (fun h => by cases h) (by decide) (full_code _ (by kernel_rfl)) 2 0 (by decide) (by decide) (by decide) (by decide) 1073741824 (by decide) (by decide) (by have hk := madeN_le (fullK ⟨38, 4, 0, 0, 0⟩) (1073741824 : Int).toNat (newQ (fullK ⟨38, 4, 0, 0, 0⟩) []); have ht : (1073741824 : Int).toNat = 1073741824 := rfl; rw [ht] at hk ⊢; show ((madeN (fullK ⟨38, 4, 0, 0, 0⟩) 1073741824 (newQ (fullK ⟨38, 4, 0, 0, 0⟩) []) : Nat) : Int) < _; omega)))
  go_enter Try.func27, Try.ntmps27
  go_wp2_with (first
    | (refine step_lay (T := 96) (cs := lastV) rfl rfl size96 rfl rfl (blk_at rfl) rfl last_one ?_; go_must (intro w1 b1 s1 o1; have O1 := Lib.hid (((Only.refl (fun _ => False) w).alloc _).trans o1 (fun b h1 h2 => by have h3 : b = w.heap.size := h2; omega) : Only (fun _ => False) w w1); have B1 := Lib.hid b1; have S1 : w1.heap.size = w.heap.size + 1 := (s1.trans (by simp)); clear b1 s1 o1))
    | (refine step_lay (T := 97) (cs := endsV) rfl rfl size97 rfl rfl (blk_at (by simp only [S1])) rfl ends_one ?_; go_must (intro w2 b1 s1 o1; have B2 := Lib.hid b1; have S2 : w2.heap.size = w.heap.size + 2 := (s1.trans (by simp [S1])); have B12 := Lib.hid ((B1.out.alloc _).only o1 (by omega)); have O2 := Lib.hid ((O1.out.alloc _).trans o1 (fun b h1 h2 => by have h3 : b = w.heap.size + 1 := h2; omega) : Only (fun _ => False) w w2); clear b1 s1 o1 B1 O1 S1 w1; have y0 : w2.cell? ⟨w.heap.size, 10, none⟩ = some (.int .i64 38) := B12.out.cell 10; have y1 : w2.cell? ⟨w.heap.size, 11, none⟩ = some (.int .i64 4) := B12.out.cell 11; have y2 : w2.cell? ⟨w.heap.size, 12, none⟩ = some (.int .i64 0) := B12.out.cell 12; have y3 : w2.cell? ⟨w.heap.size, 13, none⟩ = some (.int .i64 0) := B12.out.cell 13; have y4 : w2.cell? ⟨w.heap.size, 14, none⟩ = some (.int .i64 0) := B12.out.cell 14)))
  refine (HI.out _ _ _ (blk_at (by simp only [S2])) (by kernel_rfl)).mono ?_
  rintro e w3 ⟨eb, n, cap, rfl, hn, u0, u1, u2, u3, hb3⟩
  have O3 := Lib.hid (((Only.refl (fun _ => False) w2).alloc _).trans (Only.ofBelow (F := fun _ => False) hb3) fun _ _ h => h)
  have hlt2 : w.heap.size + 2 < w3.heap.size := by have := hb3.size; simp [S2] at this; omega
  have B3 := Lib.hid ((B2.out.only O3.out (fun h => h)).alloc (.cells #[.slice (some ⟨eb, 0, none⟩) n cap, .int .i64 3, .int .i64 5, .int .i64 0, .int .i64 2097156, .int .i64 0, .int .i64 1] 44))
  have BE := Lib.hid (blk_at rfl : Blk (w3.alloc (.cells #[.slice (some ⟨eb, 0, none⟩) n cap, .int .i64 3, .int .i64 5, .int .i64 0, .int .i64 2097156, .int .i64 0, .int .i64 1] 44)) w3.heap.size 44 #[.slice (some ⟨eb, 0, none⟩) n cap, .int .i64 3, .int .i64 5, .int .i64 0, .int .i64 2097156, .int .i64 0, .int .i64 1])
  have V := Lib.hid (fun (o : Nat) (x : Value) (h : w3.cell? ⟨eb, o, none⟩ = some x) => (World.cell?_alloc_past (w := w3) (.cells #[.slice (some ⟨eb, 0, none⟩) n cap, .int .i64 3, .int .i64 5, .int .i64 0, .int .i64 2097156, .int .i64 0, .int .i64 1] 44) eb o (World.block_lt_of_cell? w3 _ h)).trans h)
  have v0 := V.out _ _ u0
  have v1 := V.out _ _ u1
  have v2 := V.out _ _ u2
  have v3 := V.out _ _ u3
  have OF := Lib.hid (((O2.out.trans O3.out fun _ _ h => h).alloc (.cells #[.slice (some ⟨eb, 0, none⟩) n cap, .int .i64 3, .int .i64 5, .int .i64 0, .int .i64 2097156, .int .i64 0, .int .i64 1] 44)))
  clear y0 y1 y2 y3 y4 B12 O2 hb3 u0 u1 u2 u3 V B2 O3 HI
  go_wp2_with fail
  generalize World.alloc _ _ = w4 at *
  generalize w3.heap.size = s4 at *
  have x0 := BE.out.cell 0
  have x1 := BE.out.cell 1
  have x2 := BE.out.cell 2
  have x3 := BE.out.cell 3
  simp only [List.getElem?_toArray, List.getElem?_cons_zero, List.getElem?_cons_succ] at x0 x1 x2 x3
  have z1 : w4.cell? ⟨w.heap.size + 1, 15, none⟩ = some (.int .i64 3) := B3.out.cell 15
  have z2 : w4.cell? ⟨w.heap.size + 1, 16, none⟩ = some (.int .i64 5) := B3.out.cell 16
  have z3 : w4.cell? ⟨w.heap.size + 1, 17, none⟩ = some (.int .i64 0) := B3.out.cell 17
  have hi1 : (1048575 : Int) < (n : Int) := by omega
  have hi2 : 1048575 < n := by omega
  have hi3 : 0 < n := by omega
  have OG := Lib.hid (fun k => (OF.out.drewN k).toBelow (Nat.le_refl _) fun _ _ h => h)
  clear BE B3 OF S2 hlt2 w2 hn
  go_quiet (fail)
  go_wp2_with fail
  go_ret
  exact ⟨rfl, OG.out nq⟩

set_option maxRecDepth 100000 in
set_option maxHeartbeats 8000000 in
theorem full_c3 (w : World) : Calls Try.prog 27 #[.int .i64 3] w fun e w' => e = .returned (.bool true) ∧ Below w.heap.size w w' := by
  have HI := Lib.hid (fun (w1 : World) (b1 : Nat) (cs : Array Value) (hB : Blk w1 b1 54 cs) (hcs : cs.toList = manyC insL (insOf (fullL ⟨36, 4, 0, 0, 0⟩)) 9) => one_full full_3 (one_c w1 (fun x => x < w1.heap.size) (fun _ h => h) (some ⟨b1, 0, none⟩) 9 9 (insOf (fullL ⟨36, 4, 0, 0, 0⟩)) 2 ⟨by decide, by decide⟩ (IL_blk hB hcs (full_in ⟨36, 4, 0, 0, 0⟩ (by refine ⟨?_, ?_, ?_, ?_, ?_⟩ <;> exact ⟨by decide, by decide⟩)) (by decide) hB.lt) (by decide) (fun h => by cases h) (by decide) (full_code _ (by kernel_rfl)) 2 0 (by decide) (by decide) (by decide) (by decide) 1073741824 (by decide) (by decide) (by have hk := madeN_le (fullK ⟨36, 4, 0, 0, 0⟩) (1073741824 : Int).toNat (newQ (fullK ⟨36, 4, 0, 0, 0⟩) []); have ht : (1073741824 : Int).toNat = 1073741824 := rfl; rw [ht] at hk ⊢; show ((madeN (fullK ⟨36, 4, 0, 0, 0⟩) 1073741824 (newQ (fullK ⟨36, 4, 0, 0, 0⟩) []) : Nat) : Int) < _; omega)))
  go_enter Try.func27, Try.ntmps27
  go_wp2_with (first
    | (refine step_lay (T := 96) (cs := lastV) rfl rfl size96 rfl rfl (blk_at rfl) rfl last_one ?_; go_must (intro w1 b1 s1 o1; have O1 := Lib.hid (((Only.refl (fun _ => False) w).alloc _).trans o1 (fun b h1 h2 => by have h3 : b = w.heap.size := h2; omega) : Only (fun _ => False) w w1); have B1 := Lib.hid b1; have S1 : w1.heap.size = w.heap.size + 1 := (s1.trans (by simp)); clear b1 s1 o1))
    | (refine step_lay (T := 97) (cs := endsV) rfl rfl size97 rfl rfl (blk_at (by simp only [S1])) rfl ends_one ?_; go_must (intro w2 b1 s1 o1; have B2 := Lib.hid b1; have S2 : w2.heap.size = w.heap.size + 2 := (s1.trans (by simp [S1])); have B12 := Lib.hid ((B1.out.alloc _).only o1 (by omega)); have O2 := Lib.hid ((O1.out.alloc _).trans o1 (fun b h1 h2 => by have h3 : b = w.heap.size + 1 := h2; omega) : Only (fun _ => False) w w2); clear b1 s1 o1 B1 O1 S1 w1; have y0 : w2.cell? ⟨w.heap.size, 15, none⟩ = some (.int .i64 36) := B12.out.cell 15; have y1 : w2.cell? ⟨w.heap.size, 16, none⟩ = some (.int .i64 4) := B12.out.cell 16; have y2 : w2.cell? ⟨w.heap.size, 17, none⟩ = some (.int .i64 0) := B12.out.cell 17; have y3 : w2.cell? ⟨w.heap.size, 18, none⟩ = some (.int .i64 0) := B12.out.cell 18; have y4 : w2.cell? ⟨w.heap.size, 19, none⟩ = some (.int .i64 0) := B12.out.cell 19)))
  refine (HI.out _ _ _ (blk_at (by simp only [S2])) (by kernel_rfl)).mono ?_
  rintro e w3 ⟨eb, n, cap, rfl, hn, u0, u1, u2, u3, hb3⟩
  have O3 := Lib.hid (((Only.refl (fun _ => False) w2).alloc _).trans (Only.ofBelow (F := fun _ => False) hb3) fun _ _ h => h)
  have hlt2 : w.heap.size + 2 < w3.heap.size := by have := hb3.size; simp [S2] at this; omega
  have B3 := Lib.hid ((B2.out.only O3.out (fun h => h)).alloc (.cells #[.slice (some ⟨eb, 0, none⟩) n cap, .int .i64 2, .int .i64 5, .int .i64 0, .int .i64 2097156, .int .i64 0, .int .i64 1] 44))
  have BE := Lib.hid (blk_at rfl : Blk (w3.alloc (.cells #[.slice (some ⟨eb, 0, none⟩) n cap, .int .i64 2, .int .i64 5, .int .i64 0, .int .i64 2097156, .int .i64 0, .int .i64 1] 44)) w3.heap.size 44 #[.slice (some ⟨eb, 0, none⟩) n cap, .int .i64 2, .int .i64 5, .int .i64 0, .int .i64 2097156, .int .i64 0, .int .i64 1])
  have V := Lib.hid (fun (o : Nat) (x : Value) (h : w3.cell? ⟨eb, o, none⟩ = some x) => (World.cell?_alloc_past (w := w3) (.cells #[.slice (some ⟨eb, 0, none⟩) n cap, .int .i64 2, .int .i64 5, .int .i64 0, .int .i64 2097156, .int .i64 0, .int .i64 1] 44) eb o (World.block_lt_of_cell? w3 _ h)).trans h)
  have v0 := V.out _ _ u0
  have v1 := V.out _ _ u1
  have v2 := V.out _ _ u2
  have v3 := V.out _ _ u3
  have OF := Lib.hid (((O2.out.trans O3.out fun _ _ h => h).alloc (.cells #[.slice (some ⟨eb, 0, none⟩) n cap, .int .i64 2, .int .i64 5, .int .i64 0, .int .i64 2097156, .int .i64 0, .int .i64 1] 44)))
  clear y0 y1 y2 y3 y4 B12 O2 hb3 u0 u1 u2 u3 V B2 O3 HI
  go_wp2_with fail
  generalize World.alloc _ _ = w4 at *
  generalize w3.heap.size = s4 at *
  have x0 := BE.out.cell 0
  have x1 := BE.out.cell 1
  have x2 := BE.out.cell 2
  have x3 := BE.out.cell 3
  simp only [List.getElem?_toArray, List.getElem?_cons_zero, List.getElem?_cons_succ] at x0 x1 x2 x3
  have z1 : w4.cell? ⟨w.heap.size + 1, 22, none⟩ = some (.int .i64 2) := B3.out.cell 22
  have z2 : w4.cell? ⟨w.heap.size + 1, 23, none⟩ = some (.int .i64 5) := B3.out.cell 23
  have z3 : w4.cell? ⟨w.heap.size + 1, 24, none⟩ = some (.int .i64 0) := B3.out.cell 24
  have hi1 : (1048575 : Int) < (n : Int) := by omega
  have hi2 : 1048575 < n := by omega
  have hi3 : 0 < n := by omega
  have OG := Lib.hid (fun k => (OF.out.drewN k).toBelow (Nat.le_refl _) fun _ _ h => h)
  clear BE B3 OF S2 hlt2 w2 hn
  go_quiet (fail)
  go_wp2_with fail
  go_ret
  exact ⟨rfl, OG.out nq⟩

end Go.Proofs.Ytkjfbojmkkdgoaa
