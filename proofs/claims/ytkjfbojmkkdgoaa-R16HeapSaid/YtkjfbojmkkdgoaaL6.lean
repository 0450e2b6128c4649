/- R16Words: the walk. -/
import Derived.Test.YtkjfbojmkkdgoaaL5
set_option linter.unusedVariables false
set_option linter.unusedSimpArgs false
namespace Go.Proofs.Ytkjfbojmkkdgoaa
open Go.RowKit
attribute [local go_sem ↓] Go.wp_at_zero Go.wp_at_succ
theorem one_two {w : World} {A : Option Addr} {n c : Nat} {X : Nat → Ins} {frame sl hl fuel F S W : Int} (h : Calls Try.prog 24 #[.slice A n c, .int .i64 frame, .agg #[.int .i64 sl, .int .i64 hl], .slice none 0 0, .int .i64 fuel] w fun e w' => ∃ v, e = .returned (.tuple #[outR (runN ({ ni := n, X := X, nf := 1, Fs := mainF frame n, mn := 0, sl := sl, hl := hl } : MK) fuel.toNat (newQ ({ ni := n, X := X, nf := 1, Fs := mainF frame n, mn := 0, sl := sl, hl := hl } : MK) [])) v, .bool true]) ∧ Row w' (fun b => w.heap.size ≤ b) 50 2 v (runN ({ ni := n, X := X, nf := 1, Fs := mainF frame n, mn := 0, sl := sl, hl := hl } : MK) fuel.toNat (newQ ({ ni := n, X := X, nf := 1, Fs := mainF frame n, mn := 0, sl := sl, hl := hl } : MK) [])).ev.length (evs (runN ({ ni := n, X := X, nf := 1, Fs := mainF frame n, mn := 0, sl := sl, hl := hl } : MK) fuel.toNat (newQ ({ ni := n, X := X, nf := 1, Fs := mainF frame n, mn := 0, sl := sl, hl := hl } : MK) [])).ev) ∧ Below w.heap.size w w') (h1 : (runN ({ ni := n, X := X, nf := 1, Fs := mainF frame n, mn := 0, sl := sl, hl := hl } : MK) fuel.toNat (newQ ({ ni := n, X := X, nf := 1, Fs := mainF frame n, mn := 0, sl := sl, hl := hl } : MK) [])).fin = F) (h2 : (runN ({ ni := n, X := X, nf := 1, Fs := mainF frame n, mn := 0, sl := sl, hl := hl } : MK) fuel.toNat (newQ ({ ni := n, X := X, nf := 1, Fs := mainF frame n, mn := 0, sl := sl, hl := hl } : MK) [])).steps = S) (h3 : (runN ({ ni := n, X := X, nf := 1, Fs := mainF frame n, mn := 0, sl := sl, hl := hl } : MK) fuel.toNat (newQ ({ ni := n, X := X, nf := 1, Fs := mainF frame n, mn := 0, sl := sl, hl := hl } : MK) [])).ev = [(1, W)]) :
    Calls Try.prog 24 #[.slice A n c, .int .i64 frame, .agg #[.int .i64 sl, .int .i64 hl], .slice none 0 0, .int .i64 fuel] w fun e w' => ∃ eb cap k2 v2 tk dp, e = .returned (.tuple #[.agg #[.slice (some ⟨eb, 0, none⟩) 1 cap, .int .i64 F, .int .i64 k2, .int .i64 v2, .int .i64 S, .int .i64 tk, .int .i64 dp], .bool true]) ∧ w'.cell? ⟨eb, 0, none⟩ = some (.int .i64 1) ∧ w'.cell? ⟨eb, 1, none⟩ = some (.int .i64 W) ∧ Below w.heap.size w w' := by
  refine h.mono ?_
  rintro e w' ⟨v, rfl, hR, hb⟩
  generalize (runN ({ ni := n, X := X, nf := 1, Fs := mainF frame n, mn := 0, sl := sl, hl := hl } : MK) fuel.toNat (newQ ({ ni := n, X := X, nf := 1, Fs := mainF frame n, mn := 0, sl := sl, hl := hl } : MK) [])) = qf at *
  rw [h3] at hR
  obtain ⟨eb, cap, rfl, he0, he1, he2⟩ := hR.form (by simp)
  refine ⟨eb, cap, qf.kind, qf.val, qf.hp.tk, qf.depth, ?_, hR.cell (i := 0) (u := .int .i64 1) rfl, hR.cell (i := 1) (u := .int .i64 W) rfl, hb⟩
  unfold outR
  rw [h1, h2]
  rfl
theorem one_none {w : World} {A : Option Addr} {n c : Nat} {X : Nat → Ins} {frame sl hl fuel F S k v : Int} (h : Calls Try.prog 24 #[.slice A n c, .int .i64 frame, .agg #[.int .i64 sl, .int .i64 hl], .slice none 0 0, .int .i64 fuel] w fun e w' => ∃ v, e = .returned (.tuple #[outR (runN ({ ni := n, X := X, nf := 1, Fs := mainF frame n, mn := 0, sl := sl, hl := hl } : MK) fuel.toNat (newQ ({ ni := n, X := X, nf := 1, Fs := mainF frame n, mn := 0, sl := sl, hl := hl } : MK) [])) v, .bool true]) ∧ Row w' (fun b => w.heap.size ≤ b) 50 2 v (runN ({ ni := n, X := X, nf := 1, Fs := mainF frame n, mn := 0, sl := sl, hl := hl } : MK) fuel.toNat (newQ ({ ni := n, X := X, nf := 1, Fs := mainF frame n, mn := 0, sl := sl, hl := hl } : MK) [])).ev.length (evs (runN ({ ni := n, X := X, nf := 1, Fs := mainF frame n, mn := 0, sl := sl, hl := hl } : MK) fuel.toNat (newQ ({ ni := n, X := X, nf := 1, Fs := mainF frame n, mn := 0, sl := sl, hl := hl } : MK) [])).ev) ∧ Below w.heap.size w w') (h1 : (runN ({ ni := n, X := X, nf := 1, Fs := mainF frame n, mn := 0, sl := sl, hl := hl } : MK) fuel.toNat (newQ ({ ni := n, X := X, nf := 1, Fs := mainF frame n, mn := 0, sl := sl, hl := hl } : MK) [])).fin = F) (h2 : (runN ({ ni := n, X := X, nf := 1, Fs := mainF frame n, mn := 0, sl := sl, hl := hl } : MK) fuel.toNat (newQ ({ ni := n, X := X, nf := 1, Fs := mainF frame n, mn := 0, sl := sl, hl := hl } : MK) [])).steps = S) (h3 : (runN ({ ni := n, X := X, nf := 1, Fs := mainF frame n, mn := 0, sl := sl, hl := hl } : MK) fuel.toNat (newQ ({ ni := n, X := X, nf := 1, Fs := mainF frame n, mn := 0, sl := sl, hl := hl } : MK) [])).ev = []) (h4 : (runN ({ ni := n, X := X, nf := 1, Fs := mainF frame n, mn := 0, sl := sl, hl := hl } : MK) fuel.toNat (newQ ({ ni := n, X := X, nf := 1, Fs := mainF frame n, mn := 0, sl := sl, hl := hl } : MK) [])).kind = k) (h5 : (runN ({ ni := n, X := X, nf := 1, Fs := mainF frame n, mn := 0, sl := sl, hl := hl } : MK) fuel.toNat (newQ ({ ni := n, X := X, nf := 1, Fs := mainF frame n, mn := 0, sl := sl, hl := hl } : MK) [])).val = v) :
    Calls Try.prog 24 #[.slice A n c, .int .i64 frame, .agg #[.int .i64 sl, .int .i64 hl], .slice none 0 0, .int .i64 fuel] w fun e w' => ∃ A2 cap tk dp, e = .returned (.tuple #[.agg #[.slice A2 0 cap, .int .i64 F, .int .i64 k, .int .i64 v, .int .i64 S, .int .i64 tk, .int .i64 dp], .bool true]) ∧ Below w.heap.size w w' := by
  refine h.mono ?_
  rintro e w' ⟨v', rfl, hR, hb⟩
  generalize (runN ({ ni := n, X := X, nf := 1, Fs := mainF frame n, mn := 0, sl := sl, hl := hl } : MK) fuel.toNat (newQ ({ ni := n, X := X, nf := 1, Fs := mainF frame n, mn := 0, sl := sl, hl := hl } : MK) [])) = qf at *
  rw [h3] at hR
  obtain ⟨A2, cap, rfl, -⟩ := hR.shape
  refine ⟨A2, cap, qf.hp.tk, qf.depth, ?_, hb⟩
  unfold outR
  rw [h1, h2, h4, h5]
  rfl
set_option maxRecDepth 100000 in
set_option maxHeartbeats 8000000 in
theorem words_0 (w : World) (op a b to : Int) (ha : i64in a) (hb : i64in b) (ho : bits .and .i64 op 15 = 0) (t : Nat) (ht : bits .and .i64 to 15 = (t : Int)) (htt : t < 16)  : Calls Try.prog 6 #[.int .i64 op, .int .i64 a, .int .i64 b, .int .i64 to] w fun e w' => e = .returned (.bool true) ∧ Below w.heap.size w w' := by
  obtain ⟨r1, r2, r3⟩ := words_did 3 a b 4 t (wdo 2 a b) (by simp [act, W2_a, W2_b])
  have hk : madeN (wordsK 3 a b 4 t) (9 : Int).toNat (newQ (wordsK 3 a b 4 t) []) ≤ 9 := madeN_le _ _ _
  have HI := Lib.hid (fun (w1 : World) (b1 : Nat) (cs : Array Value) (hB : Blk w1 b1 54 cs) (hcs : cs.toList = manyC insL (insOf (wordsL5 3 a b 4 t)) 5) => one_two (one_c w1 (fun x => x < w1.heap.size) (fun _ h => h) (some ⟨b1, 0, none⟩) 5 5 (insOf (wordsL5 3 a b 4 t)) 2 ⟨by decide, by decide⟩ (IL_blk hB hcs (words_in 3 a b 4 t ⟨by decide, by decide⟩ ha hb ⟨by decide, by decide⟩ ⟨by omega, by omega⟩) (by decide) hB.lt) (by decide) (fun h => by cases h) (by decide) (words_code 3 a b 4 t (by omega) (by omega) (by omega)) 2 0 (by decide) (by decide) (by decide) (by decide) 9 (by decide) (by decide) (by show ((madeN (wordsK 3 a b 4 t) (9 : Int).toNat (newQ (wordsK 3 a b 4 t) []) : Nat) : Int) < _; omega)) r1 r2 r3)
  have HD := Lib.hid (do_c 2 a b)
  have hio : isOp 2 = true := rfl
  clear r1 r2 r3 hk  ha hb
  go_enter Try.func6, Try.ntmps6
  go_wp2_with fail
  refine (HI.out _ _ _ (blk_at rfl) (by kernel_rfl)).mono ?_
  rintro e w2 ⟨eb, cap, k2, v2, tk, dp, rfl, v0, v1, hb2⟩
  have hbw := Lib.hid (((Only.refl (fun _ => False) w).alloc _).trans (Only.ofBelow (F := fun _ => False) hb2) fun _ _ h => h)
  clear hb2
  have BE : Blk (w2.alloc (.cells #[.slice (some ⟨eb, 0, none⟩) 1 cap, .int .i64 1, .int .i64 k2, .int .i64 v2, .int .i64 5, .int .i64 tk, .int .i64 dp] 44)) w2.heap.size 44 #[.slice (some ⟨eb, 0, none⟩) 1 cap, .int .i64 1, .int .i64 k2, .int .i64 v2, .int .i64 5, .int .i64 tk, .int .i64 dp] := blk_at rfl
  have v0' := (World.cell?_alloc_past (w := w2) (.cells #[.slice (some ⟨eb, 0, none⟩) 1 cap, .int .i64 1, .int .i64 k2, .int .i64 v2, .int .i64 5, .int .i64 tk, .int .i64 dp] 44) eb 0 (World.block_lt_of_cell? w2 _ v0)).trans v0
  have v1' := (World.cell?_alloc_past (w := w2) (.cells #[.slice (some ⟨eb, 0, none⟩) 1 cap, .int .i64 1, .int .i64 k2, .int .i64 v2, .int .i64 5, .int .i64 tk, .int .i64 dp] 44) eb 1 (World.block_lt_of_cell? w2 _ v1)).trans v1
  have hbx := Lib.hid (hbw.out.alloc (.cells #[.slice (some ⟨eb, 0, none⟩) 1 cap, .int .i64 1, .int .i64 k2, .int .i64 v2, .int .i64 5, .int .i64 tk, .int .i64 dp] 44))
  clear hbw
  go_wp2_with fail
  generalize World.alloc _ _ = w3 at *
  refine (HD.out w3).mono ?_
  rintro e w4 ⟨rfl, hb4⟩
  rw [hio]
  go_wp2_with fail
  refine (alive_c w4).mono ?_
  rintro e w5 ⟨rfl, hb5⟩
  have O35 := (Only.ofBelow (F := fun _ => False) hb4).trans (Only.ofBelow (F := fun _ => False) hb5) fun _ _ h => h
  have BE5 := BE.only O35 (fun h => h)
  have y0 := BE5.cell 0
  have y1 := BE5.cell 1
  have y2 := BE5.cell 2
  have y3 := BE5.cell 3
  have y4 := BE5.cell 4
  simp only [List.getElem?_toArray, List.getElem?_cons_zero, List.getElem?_cons_succ] at y0 y1 y2 y3 y4
  have u0 := (O35.cell (b := eb) (o := 0) (World.block_lt_of_cell? w3 _ v0') (fun h => h)).trans v0'
  have u1 := (O35.cell (b := eb) (o := 1) (World.block_lt_of_cell? w3 _ v1') (fun h => h)).trans v1'
  clear v0 v1 v0' v1'
  have FIN := Lib.hid ((hbx.out.trans O35 fun _ _ h => h).toBelow (Nat.le_refl _) fun _ _ h => h)
  clear BE BE5 O35 hb4 hb5 hbx HI HD
  go_wp2_with fail
  go_ret
  exact ⟨rfl, FIN.out⟩
set_option maxRecDepth 100000 in
set_option maxHeartbeats 8000000 in
theorem words_1 (w : World) (op a b to : Int) (ha : i64in a) (hb : i64in b) (ho : bits .and .i64 op 15 = 1) (t : Nat) (ht : bits .and .i64 to 15 = (t : Int)) (htt : t < 16)  : Calls Try.prog 6 #[.int .i64 op, .int .i64 a, .int .i64 b, .int .i64 to] w fun e w' => e = .returned (.bool true) ∧ Below w.heap.size w w' := by
  obtain ⟨r1, r2, r3⟩ := words_did 4 a b 4 t (wdo 3 a b) (by simp [act, W2_a, W2_b])
  have hk : madeN (wordsK 4 a b 4 t) (9 : Int).toNat (newQ (wordsK 4 a b 4 t) []) ≤ 9 := madeN_le _ _ _
  have HI := Lib.hid (fun (w1 : World) (b1 : Nat) (cs : Array Value) (hB : Blk w1 b1 54 cs) (hcs : cs.toList = manyC insL (insOf (wordsL5 4 a b 4 t)) 5) => one_two (one_c w1 (fun x => x < w1.heap.size) (fun _ h => h) (some ⟨b1, 0, none⟩) 5 5 (insOf (wordsL5 4 a b 4 t)) 2 ⟨by decide, by decide⟩ (IL_blk hB hcs (words_in 4 a b 4 t ⟨by decide, by decide⟩ ha hb ⟨by decide, by decide⟩ ⟨by omega, by omega⟩) (by decide) hB.lt) (by decide) (fun h => by cases h) (by decide) (words_code 4 a b 4 t (by omega) (by omega) (by omega)) 2 0 (by decide) (by decide) (by decide) (by decide) 9 (by decide) (by decide) (by show ((madeN (wordsK 4 a b 4 t) (9 : Int).toNat (newQ (wordsK 4 a b 4 t) []) : Nat) : Int) < _; omega)) r1 r2 r3)
  have HD := Lib.hid (do_c 3 a b)
  have hio : isOp 3 = true := rfl
  clear r1 r2 r3 hk  ha hb
  go_enter Try.func6, Try.ntmps6
  go_wp2_with fail
  refine (HI.out _ _ _ (blk_at rfl) (by kernel_rfl)).mono ?_
  rintro e w2 ⟨eb, cap, k2, v2, tk, dp, rfl, v0, v1, hb2⟩
  have hbw := Lib.hid (((Only.refl (fun _ => False) w).alloc _).trans (Only.ofBelow (F := fun _ => False) hb2) fun _ _ h => h)
  clear hb2
  have BE : Blk (w2.alloc (.cells #[.slice (some ⟨eb, 0, none⟩) 1 cap, .int .i64 1, .int .i64 k2, .int .i64 v2, .int .i64 5, .int .i64 tk, .int .i64 dp] 44)) w2.heap.size 44 #[.slice (some ⟨eb, 0, none⟩) 1 cap, .int .i64 1, .int .i64 k2, .int .i64 v2, .int .i64 5, .int .i64 tk, .int .i64 dp] := blk_at rfl
  have v0' := (World.cell?_alloc_past (w := w2) (.cells #[.slice (some ⟨eb, 0, none⟩) 1 cap, .int .i64 1, .int .i64 k2, .int .i64 v2, .int .i64 5, .int .i64 tk, .int .i64 dp] 44) eb 0 (World.block_lt_of_cell? w2 _ v0)).trans v0
  have v1' := (World.cell?_alloc_past (w := w2) (.cells #[.slice (some ⟨eb, 0, none⟩) 1 cap, .int .i64 1, .int .i64 k2, .int .i64 v2, .int .i64 5, .int .i64 tk, .int .i64 dp] 44) eb 1 (World.block_lt_of_cell? w2 _ v1)).trans v1
  have hbx := Lib.hid (hbw.out.alloc (.cells #[.slice (some ⟨eb, 0, none⟩) 1 cap, .int .i64 1, .int .i64 k2, .int .i64 v2, .int .i64 5, .int .i64 tk, .int .i64 dp] 44))
  clear hbw
  go_wp2_with fail
  generalize World.alloc _ _ = w3 at *
  refine (HD.out w3).mono ?_
  rintro e w4 ⟨rfl, hb4⟩
  rw [hio]
  go_wp2_with fail
  refine (alive_c w4).mono ?_
  rintro e w5 ⟨rfl, hb5⟩
  have O35 := (Only.ofBelow (F := fun _ => False) hb4).trans (Only.ofBelow (F := fun _ => False) hb5) fun _ _ h => h
  have BE5 := BE.only O35 (fun h => h)
  have y0 := BE5.cell 0
  have y1 := BE5.cell 1
  have y2 := BE5.cell 2
  have y3 := BE5.cell 3
  have y4 := BE5.cell 4
  simp only [List.getElem?_toArray, List.getElem?_cons_zero, List.getElem?_cons_succ] at y0 y1 y2 y3 y4
  have u0 := (O35.cell (b := eb) (o := 0) (World.block_lt_of_cell? w3 _ v0') (fun h => h)).trans v0'
  have u1 := (O35.cell (b := eb) (o := 1) (World.block_lt_of_cell? w3 _ v1') (fun h => h)).trans v1'
  clear v0 v1 v0' v1'
  have FIN := Lib.hid ((hbx.out.trans O35 fun _ _ h => h).toBelow (Nat.le_refl _) fun _ _ h => h)
  clear BE BE5 O35 hb4 hb5 hbx HI HD
  go_wp2_with fail
  go_ret
  exact ⟨rfl, FIN.out⟩
set_option maxRecDepth 100000 in
set_option maxHeartbeats 8000000 in
theorem words_2 (w : World) (op a b to : Int) (ha : i64in a) (hb : i64in b) (ho : bits .and .i64 op 15 = 2) (t : Nat) (ht : bits .and .i64 to 15 = (t : Int)) (htt : t < 16)  : Calls Try.prog 6 #[.int .i64 op, .int .i64 a, .int .i64 b, .int .i64 to] w fun e w' => e = .returned (.bool true) ∧ Below w.heap.size w w' := by
  obtain ⟨r1, r2, r3⟩ := words_did 5 a b 4 t (wdo 4 a b) (by simp [act, W2_a, W2_b])
  have hk : madeN (wordsK 5 a b 4 t) (9 : Int).toNat (newQ (wordsK 5 a b 4 t) []) ≤ 9 := madeN_le _ _ _
  have HI := Lib.hid (fun (w1 : World) (b1 : Nat) (cs : Array Value) (hB : Blk w1 b1 54 cs) (hcs : cs.toList = manyC insL (insOf (wordsL5 5 a b 4 t)) 5) => one_two (one_c w1 (fun x => x < w1.heap.size) (fun _ h => h) (some ⟨b1, 0, none⟩) 5 5 (insOf (wordsL5 5 a b 4 t)) 2 ⟨by decide, by decide⟩ (IL_blk hB hcs (words_in 5 a b 4 t ⟨by decide, by decide⟩ ha hb ⟨by decide, by decide⟩ ⟨by omega, by omega⟩) (by decide) hB.lt) (by decide) (fun h => by cases h) (by decide) (words_code 5 a b 4 t (by omega) (by omega) (by omega)) 2 0 (by decide) (by decide) (by decide) (by decide) 9 (by decide) (by decide) (by show ((madeN (wordsK 5 a b 4 t) (9 : Int).toNat (newQ (wordsK 5 a b 4 t) []) : Nat) : Int) < _; omega)) r1 r2 r3)
  have HD := Lib.hid (do_c 4 a b)
  have hio : isOp 4 = true := rfl
  clear r1 r2 r3 hk  ha hb
  go_enter Try.func6, Try.ntmps6
  go_wp2_with fail
  refine (HI.out _ _ _ (blk_at rfl) (by kernel_rfl)).mono ?_
  rintro e w2 ⟨eb, cap, k2, v2, tk, dp, rfl, v0, v1, hb2⟩
  have hbw := Lib.hid (((Only.refl (fun _ => False) w).alloc _).trans (Only.ofBelow (F := fun _ => False) hb2) fun _ _ h => h)
  clear hb2
  have BE : Blk (w2.alloc (.cells #[.slice (some ⟨eb, 0, none⟩) 1 cap, .int .i64 1, .int .i64 k2, .int .i64 v2, .int .i64 5, .int .i64 tk, .int .i64 dp] 44)) w2.heap.size 44 #[.slice (some ⟨eb, 0, none⟩) 1 cap, .int .i64 1, .int .i64 k2, .int .i64 v2, .int .i64 5, .int .i64 tk, .int .i64 dp] := blk_at rfl
  have v0' := (World.cell?_alloc_past (w := w2) (.cells #[.slice (some ⟨eb, 0, none⟩) 1 cap, .int .i64 1, .int .i64 k2, .int .i64 v2, .int .i64 5, .int .i64 tk, .int .i64 dp] 44) eb 0 (World.block_lt_of_cell? w2 _ v0)).trans v0
  have v1' := (World.cell?_alloc_past (w := w2) (.cells #[.slice (some ⟨eb, 0, none⟩) 1 cap, .int .i64 1, .int .i64 k2, .int .i64 v2, .int .i64 5, .int .i64 tk, .int .i64 dp] 44) eb 1 (World.block_lt_of_cell? w2 _ v1)).trans v1
  have hbx := Lib.hid (hbw.out.alloc (.cells #[.slice (some ⟨eb, 0, none⟩) 1 cap, .int .i64 1, .int .i64 k2, .int .i64 v2, .int .i64 5, .int .i64 tk, .int .i64 dp] 44))
  clear hbw
  go_wp2_with fail
  generalize World.alloc _ _ = w3 at *
  refine (HD.out w3).mono ?_
  rintro e w4 ⟨rfl, hb4⟩
  rw [hio]
  go_wp2_with fail
  refine (alive_c w4).mono ?_
  rintro e w5 ⟨rfl, hb5⟩
  have O35 := (Only.ofBelow (F := fun _ => False) hb4).trans (Only.ofBelow (F := fun _ => False) hb5) fun _ _ h => h
  have BE5 := BE.only O35 (fun h => h)
  have y0 := BE5.cell 0
  have y1 := BE5.cell 1
  have y2 := BE5.cell 2
  have y3 := BE5.cell 3
  have y4 := BE5.cell 4
  simp only [List.getElem?_toArray, List.getElem?_cons_zero, List.getElem?_cons_succ] at y0 y1 y2 y3 y4
  have u0 := (O35.cell (b := eb) (o := 0) (World.block_lt_of_cell? w3 _ v0') (fun h => h)).trans v0'
  have u1 := (O35.cell (b := eb) (o := 1) (World.block_lt_of_cell? w3 _ v1') (fun h => h)).trans v1'
  clear v0 v1 v0' v1'
  have FIN := Lib.hid ((hbx.out.trans O35 fun _ _ h => h).toBelow (Nat.le_refl _) fun _ _ h => h)
  clear BE BE5 O35 hb4 hb5 hbx HI HD
  go_wp2_with fail
  go_ret
  exact ⟨rfl, FIN.out⟩
set_option maxRecDepth 100000 in
set_option maxHeartbeats 8000000 in
theorem words_3 (w : World) (op a b to : Int) (ha : i64in a) (hb : i64in b) (ho : bits .and .i64 op 15 = 3) (t : Nat) (ht : bits .and .i64 to 15 = (t : Int)) (htt : t < 16) (hs : ¬ b = 0) : Calls Try.prog 6 #[.int .i64 op, .int .i64 a, .int .i64 b, .int .i64 to] w fun e w' => e = .returned (.bool true) ∧ Below w.heap.size w w' := by
  have hs1 : (b == 0) = false := beq_eq_false_iff_ne.2 hs
  obtain ⟨r1, r2, r3⟩ := words_did 6 a b 4 t (wdo 5 a b) (by simp [act, W2_a, W2_b, hs])
  have hk : madeN (wordsK 6 a b 4 t) (9 : Int).toNat (newQ (wordsK 6 a b 4 t) []) ≤ 9 := madeN_le _ _ _
  have HI := Lib.hid (fun (w1 : World) (b1 : Nat) (cs : Array Value) (hB : Blk w1 b1 54 cs) (hcs : cs.toList = manyC insL (insOf (wordsL5 6 a b 4 t)) 5) => one_two (one_c w1 (fun x => x < w1.heap.size) (fun _ h => h) (some ⟨b1, 0, none⟩) 5 5 (insOf (wordsL5 6 a b 4 t)) 2 ⟨by decide, by decide⟩ (IL_blk hB hcs (words_in 6 a b 4 t ⟨by decide, by decide⟩ ha hb ⟨by decide, by decide⟩ ⟨by omega, by omega⟩) (by decide) hB.lt) (by decide) (fun h => by cases h) (by decide) (words_code 6 a b 4 t (by omega) (by omega) (by omega)) 2 0 (by decide) (by decide) (by decide) (by decide) 9 (by decide) (by decide) (by show ((madeN (wordsK 6 a b 4 t) (9 : Int).toNat (newQ (wordsK 6 a b 4 t) []) : Nat) : Int) < _; omega)) r1 r2 r3)
  have HD := Lib.hid (do_c 5 a b)
  have hio : isOp 5 = true := rfl
  clear r1 r2 r3 hk  ha hb
  go_enter Try.func6, Try.ntmps6
  go_wp2_with fail
  refine (HI.out _ _ _ (blk_at rfl) (by kernel_rfl)).mono ?_
  rintro e w2 ⟨eb, cap, k2, v2, tk, dp, rfl, v0, v1, hb2⟩
  have hbw := Lib.hid (((Only.refl (fun _ => False) w).alloc _).trans (Only.ofBelow (F := fun _ => False) hb2) fun _ _ h => h)
  clear hb2
  have BE : Blk (w2.alloc (.cells #[.slice (some ⟨eb, 0, none⟩) 1 cap, .int .i64 1, .int .i64 k2, .int .i64 v2, .int .i64 5, .int .i64 tk, .int .i64 dp] 44)) w2.heap.size 44 #[.slice (some ⟨eb, 0, none⟩) 1 cap, .int .i64 1, .int .i64 k2, .int .i64 v2, .int .i64 5, .int .i64 tk, .int .i64 dp] := blk_at rfl
  have v0' := (World.cell?_alloc_past (w := w2) (.cells #[.slice (some ⟨eb, 0, none⟩) 1 cap, .int .i64 1, .int .i64 k2, .int .i64 v2, .int .i64 5, .int .i64 tk, .int .i64 dp] 44) eb 0 (World.block_lt_of_cell? w2 _ v0)).trans v0
  have v1' := (World.cell?_alloc_past (w := w2) (.cells #[.slice (some ⟨eb, 0, none⟩) 1 cap, .int .i64 1, .int .i64 k2, .int .i64 v2, .int .i64 5, .int .i64 tk, .int .i64 dp] 44) eb 1 (World.block_lt_of_cell? w2 _ v1)).trans v1
  have hbx := Lib.hid (hbw.out.alloc (.cells #[.slice (some ⟨eb, 0, none⟩) 1 cap, .int .i64 1, .int .i64 k2, .int .i64 v2, .int .i64 5, .int .i64 tk, .int .i64 dp] 44))
  clear hbw
  go_wp2_with fail
  generalize World.alloc _ _ = w3 at *
  refine (HD.out w3).mono ?_
  rintro e w4 ⟨rfl, hb4⟩
  rw [hio]
  go_wp2_with fail
  refine (alive_c w4).mono ?_
  rintro e w5 ⟨rfl, hb5⟩
  have O35 := (Only.ofBelow (F := fun _ => False) hb4).trans (Only.ofBelow (F := fun _ => False) hb5) fun _ _ h => h
  have BE5 := BE.only O35 (fun h => h)
  have y0 := BE5.cell 0
  have y1 := BE5.cell 1
  have y2 := BE5.cell 2
  have y3 := BE5.cell 3
  have y4 := BE5.cell 4
  simp only [List.getElem?_toArray, List.getElem?_cons_zero, List.getElem?_cons_succ] at y0 y1 y2 y3 y4
  have u0 := (O35.cell (b := eb) (o := 0) (World.block_lt_of_cell? w3 _ v0') (fun h => h)).trans v0'
  have u1 := (O35.cell (b := eb) (o := 1) (World.block_lt_of_cell? w3 _ v1') (fun h => h)).trans v1'
  clear v0 v1 v0' v1'
  have FIN := Lib.hid ((hbx.out.trans O35 fun _ _ h => h).toBelow (Nat.le_refl _) fun _ _ h => h)
  clear BE BE5 O35 hb4 hb5 hbx HI HD
  go_wp2_with fail
  go_ret
  exact ⟨rfl, FIN.out⟩
set_option maxRecDepth 100000 in
set_option maxHeartbeats 8000000 in
theorem words_3_stuck (w : World) (op a b to : Int) (ha : i64in a) (hb : i64in b) (ho : bits .and .i64 op 15 = 3) (t : Nat) (ht : bits .and .i64 to 15 = (t : Int)) (htt : t < 16) (hs : b = 0) : Calls Try.prog 6 #[.int .i64 op, .int .i64 a, .int .i64 b, .int .i64 to] w fun e w' => e = .returned (.bool true) ∧ Below w.heap.size w w' := by
  have hs1 : (b == 0) = true := beq_iff_eq.2 hs
  have hrun := words_stuck 6 a b 4 t 3 (by simp [act, W2_b, hs])
  have r1 : (runN (wordsK 6 a b 4 t) 9 (newQ (wordsK 6 a b 4 t) [])).fin = 3 := by rw [hrun]; rfl
  have r2 : (runN (wordsK 6 a b 4 t) 9 (newQ (wordsK 6 a b 4 t) [])).steps = 3 := by rw [hrun]; rfl
  have r3 : (runN (wordsK 6 a b 4 t) 9 (newQ (wordsK 6 a b 4 t) [])).ev = [] := by rw [hrun]; rfl
  have r4 : (runN (wordsK 6 a b 4 t) 9 (newQ (wordsK 6 a b 4 t) [])).kind = 3 := by rw [hrun]; rfl
  have r5 : (runN (wordsK 6 a b 4 t) 9 (newQ (wordsK 6 a b 4 t) [])).val = 0 := by rw [hrun]; rfl
  clear hs
  have hk : madeN (wordsK 6 a b 4 t) (9 : Int).toNat (newQ (wordsK 6 a b 4 t) []) ≤ 9 := madeN_le _ _ _
  have HI := Lib.hid (fun (w1 : World) (b1 : Nat) (cs : Array Value) (hB : Blk w1 b1 54 cs) (hcs : cs.toList = manyC insL (insOf (wordsL5 6 a b 4 t)) 5) => one_none (one_c w1 (fun x => x < w1.heap.size) (fun _ h => h) (some ⟨b1, 0, none⟩) 5 5 (insOf (wordsL5 6 a b 4 t)) 2 ⟨by decide, by decide⟩ (IL_blk hB hcs (words_in 6 a b 4 t ⟨by decide, by decide⟩ ha hb ⟨by decide, by decide⟩ ⟨by omega, by omega⟩) (by decide) hB.lt) (by decide) (fun h => by cases h) (by decide) (words_code 6 a b 4 t (by omega) (by omega) (by omega)) 2 0 (by decide) (by decide) (by decide) (by decide) 9 (by decide) (by decide) (by show ((madeN (wordsK 6 a b 4 t) (9 : Int).toNat (newQ (wordsK 6 a b 4 t) []) : Nat) : Int) < _; omega)) r1 r2 r3 r4 r5)
  have HD := Lib.hid (do_c 5 a b)
  have hio : isOp 5 = true := rfl
  clear r1 r2 r3 hk r4 r5 hrun ha hb
  go_enter Try.func6, Try.ntmps6
  go_wp2_with fail
  refine (HI.out _ _ _ (blk_at rfl) (by kernel_rfl)).mono ?_
  rintro e w2 ⟨A2, cap, tk, dp, rfl, hb2⟩
  have hbw := Lib.hid (((Only.refl (fun _ => False) w).alloc _).trans (Only.ofBelow (F := fun _ => False) hb2) fun _ _ h => h)
  clear hb2
  have BE : Blk (w2.alloc (.cells #[.slice A2 0 cap, .int .i64 3, .int .i64 3, .int .i64 0, .int .i64 3, .int .i64 tk, .int .i64 dp] 44)) w2.heap.size 44 #[.slice A2 0 cap, .int .i64 3, .int .i64 3, .int .i64 0, .int .i64 3, .int .i64 tk, .int .i64 dp] := blk_at rfl
  have hbx := Lib.hid (hbw.out.alloc (.cells #[.slice A2 0 cap, .int .i64 3, .int .i64 3, .int .i64 0, .int .i64 3, .int .i64 tk, .int .i64 dp] 44))
  clear hbw
  go_wp2_with fail
  generalize World.alloc _ _ = w3 at *
  refine (HD.out w3).mono ?_
  rintro e w4 ⟨rfl, hb4⟩
  rw [hio]
  go_wp2_with fail
  refine (alive_c w4).mono ?_
  rintro e w5 ⟨rfl, hb5⟩
  have O35 := (Only.ofBelow (F := fun _ => False) hb4).trans (Only.ofBelow (F := fun _ => False) hb5) fun _ _ h => h
  have BE5 := BE.only O35 (fun h => h)
  have y0 := BE5.cell 0
  have y1 := BE5.cell 1
  have y2 := BE5.cell 2
  have y3 := BE5.cell 3
  have y4 := BE5.cell 4
  simp only [List.getElem?_toArray, List.getElem?_cons_zero, List.getElem?_cons_succ] at y0 y1 y2 y3 y4
  have FIN := Lib.hid ((hbx.out.trans O35 fun _ _ h => h).toBelow (Nat.le_refl _) fun _ _ h => h)
  clear BE BE5 O35 hb4 hb5 hbx HI HD
  go_wp2_with fail
  go_ret
  exact ⟨rfl, FIN.out⟩
set_option maxRecDepth 100000 in
set_option maxHeartbeats 8000000 in
theorem words_4 (w : World) (op a b to : Int) (ha : i64in a) (hb : i64in b) (ho : bits .and .i64 op 15 = 4) (t : Nat) (ht : bits .and .i64 to 15 = (t : Int)) (htt : t < 16) (hs : ¬ b = 0) : Calls Try.prog 6 #[.int .i64 op, .int .i64 a, .int .i64 b, .int .i64 to] w fun e w' => e = .returned (.bool true) ∧ Below w.heap.size w w' := by
  have hs1 : (b == 0) = false := beq_eq_false_iff_ne.2 hs
  obtain ⟨r1, r2, r3⟩ := words_did 7 a b 4 t (wdo 6 a b) (by simp [act, W2_a, W2_b, hs])
  have hk : madeN (wordsK 7 a b 4 t) (9 : Int).toNat (newQ (wordsK 7 a b 4 t) []) ≤ 9 := madeN_le _ _ _
  have HI := Lib.hid (fun (w1 : World) (b1 : Nat) (cs : Array Value) (hB : Blk w1 b1 54 cs) (hcs : cs.toList = manyC insL (insOf (wordsL5 7 a b 4 t)) 5) => one_two (one_c w1 (fun x => x < w1.heap.size) (fun _ h => h) (some ⟨b1, 0, none⟩) 5 5 (insOf (wordsL5 7 a b 4 t)) 2 ⟨by decide, by decide⟩ (IL_blk hB hcs (words_in 7 a b 4 t ⟨by decide, by decide⟩ ha hb ⟨by decide, by decide⟩ ⟨by omega, by omega⟩) (by decide) hB.lt) (by decide) (fun h => by cases h) (by decide) (words_code 7 a b 4 t (by omega) (by omega) (by omega)) 2 0 (by decide) (by decide) (by decide) (by decide) 9 (by decide) (by decide) (by show ((madeN (wordsK 7 a b 4 t) (9 : Int).toNat (newQ (wordsK 7 a b 4 t) []) : Nat) : Int) < _; omega)) r1 r2 r3)
  have HD := Lib.hid (do_c 6 a b)
  have hio : isOp 6 = true := rfl
  clear r1 r2 r3 hk  ha hb
  go_enter Try.func6, Try.ntmps6
  go_wp2_with fail
  refine (HI.out _ _ _ (blk_at rfl) (by kernel_rfl)).mono ?_
  rintro e w2 ⟨eb, cap, k2, v2, tk, dp, rfl, v0, v1, hb2⟩
  have hbw := Lib.hid (((Only.refl (fun _ => False) w).alloc _).trans (Only.ofBelow (F := fun _ => False) hb2) fun _ _ h => h)
  clear hb2
  have BE : Blk (w2.alloc (.cells #[.slice (some ⟨eb, 0, none⟩) 1 cap, .int .i64 1, .int .i64 k2, .int .i64 v2, .int .i64 5, .int .i64 tk, .int .i64 dp] 44)) w2.heap.size 44 #[.slice (some ⟨eb, 0, none⟩) 1 cap, .int .i64 1, .int .i64 k2, .int .i64 v2, .int .i64 5, .int .i64 tk, .int .i64 dp] := blk_at rfl
  have v0' := (World.cell?_alloc_past (w := w2) (.cells #[.slice (some ⟨eb, 0, none⟩) 1 cap, .int .i64 1, .int .i64 k2, .int .i64 v2, .int .i64 5, .int .i64 tk, .int .i64 dp] 44) eb 0 (World.block_lt_of_cell? w2 _ v0)).trans v0
  have v1' := (World.cell?_alloc_past (w := w2) (.cells #[.slice (some ⟨eb, 0, none⟩) 1 cap, .int .i64 1, .int .i64 k2, .int .i64 v2, .int .i64 5, .int .i64 tk, .int .i64 dp] 44) eb 1 (World.block_lt_of_cell? w2 _ v1)).trans v1
  have hbx := Lib.hid (hbw.out.alloc (.cells #[.slice (some ⟨eb, 0, none⟩) 1 cap, .int .i64 1, .int .i64 k2, .int .i64 v2, .int .i64 5, .int .i64 tk, .int .i64 dp] 44))
  clear hbw
  go_wp2_with fail
  generalize World.alloc _ _ = w3 at *
  refine (HD.out w3).mono ?_
  rintro e w4 ⟨rfl, hb4⟩
  rw [hio]
  go_wp2_with fail
  refine (alive_c w4).mono ?_
  rintro e w5 ⟨rfl, hb5⟩
  have O35 := (Only.ofBelow (F := fun _ => False) hb4).trans (Only.ofBelow (F := fun _ => False) hb5) fun _ _ h => h
  have BE5 := BE.only O35 (fun h => h)
  have y0 := BE5.cell 0
  have y1 := BE5.cell 1
  have y2 := BE5.cell 2
  have y3 := BE5.cell 3
  have y4 := BE5.cell 4
  simp only [List.getElem?_toArray, List.getElem?_cons_zero, List.getElem?_cons_succ] at y0 y1 y2 y3 y4
  have u0 := (O35.cell (b := eb) (o := 0) (World.block_lt_of_cell? w3 _ v0') (fun h => h)).trans v0'
  have u1 := (O35.cell (b := eb) (o := 1) (World.block_lt_of_cell? w3 _ v1') (fun h => h)).trans v1'
  clear v0 v1 v0' v1'
  have FIN := Lib.hid ((hbx.out.trans O35 fun _ _ h => h).toBelow (Nat.le_refl _) fun _ _ h => h)
  clear BE BE5 O35 hb4 hb5 hbx HI HD
  go_wp2_with fail
  go_ret
  exact ⟨rfl, FIN.out⟩
set_option maxRecDepth 100000 in
set_option maxHeartbeats 8000000 in
theorem words_4_stuck (w : World) (op a b to : Int) (ha : i64in a) (hb : i64in b) (ho : bits .and .i64 op 15 = 4) (t : Nat) (ht : bits .and .i64 to 15 = (t : Int)) (htt : t < 16) (hs : b = 0) : Calls Try.prog 6 #[.int .i64 op, .int .i64 a, .int .i64 b, .int .i64 to] w fun e w' => e = .returned (.bool true) ∧ Below w.heap.size w w' := by
  have hs1 : (b == 0) = true := beq_iff_eq.2 hs
  have hrun := words_stuck 7 a b 4 t 3 (by simp [act, W2_b, hs])
  have r1 : (runN (wordsK 7 a b 4 t) 9 (newQ (wordsK 7 a b 4 t) [])).fin = 3 := by rw [hrun]; rfl
  have r2 : (runN (wordsK 7 a b 4 t) 9 (newQ (wordsK 7 a b 4 t) [])).steps = 3 := by rw [hrun]; rfl
  have r3 : (runN (wordsK 7 a b 4 t) 9 (newQ (wordsK 7 a b 4 t) [])).ev = [] := by rw [hrun]; rfl
  have r4 : (runN (wordsK 7 a b 4 t) 9 (newQ (wordsK 7 a b 4 t) [])).kind = 3 := by rw [hrun]; rfl
  have r5 : (runN (wordsK 7 a b 4 t) 9 (newQ (wordsK 7 a b 4 t) [])).val = 0 := by rw [hrun]; rfl
  clear hs
  have hk : madeN (wordsK 7 a b 4 t) (9 : Int).toNat (newQ (wordsK 7 a b 4 t) []) ≤ 9 := madeN_le _ _ _
  have HI := Lib.hid (fun (w1 : World) (b1 : Nat) (cs : Array Value) (hB : Blk w1 b1 54 cs) (hcs : cs.toList = manyC insL (insOf (wordsL5 7 a b 4 t)) 5) => one_none (one_c w1 (fun x => x < w1.heap.size) (fun _ h => h) (some ⟨b1, 0, none⟩) 5 5 (insOf (wordsL5 7 a b 4 t)) 2 ⟨by decide, by decide⟩ (IL_blk hB hcs (words_in 7 a b 4 t ⟨by decide, by decide⟩ ha hb ⟨by decide, by decide⟩ ⟨by omega, by omega⟩) (by decide) hB.lt) (by decide) (fun h => by cases h) (by decide) (words_code 7 a b 4 t (by omega) (by omega) (by omega)) 2 0 (by decide) (by decide) (by decide) (by decide) 9 (by decide) (by decide) (by show ((madeN (wordsK 7 a b 4 t) (9 : Int).toNat (newQ (wordsK 7 a b 4 t) []) : Nat) : Int) < _; omega)) r1 r2 r3 r4 r5)
  have HD := Lib.hid (do_c 6 a b)
  have hio : isOp 6 = true := rfl
  clear r1 r2 r3 hk r4 r5 hrun ha hb
  go_enter Try.func6, Try.ntmps6
  go_wp2_with fail
  refine (HI.out _ _ _ (blk_at rfl) (by kernel_rfl)).mono ?_
  rintro e w2 ⟨A2, cap, tk, dp, rfl, hb2⟩
  have hbw := Lib.hid (((Only.refl (fun _ => False) w).alloc _).trans (Only.ofBelow (F := fun _ => False) hb2) fun _ _ h => h)
  clear hb2
  have BE : Blk (w2.alloc (.cells #[.slice A2 0 cap, .int .i64 3, .int .i64 3, .int .i64 0, .int .i64 3, .int .i64 tk, .int .i64 dp] 44)) w2.heap.size 44 #[.slice A2 0 cap, .int .i64 3, .int .i64 3, .int .i64 0, .int .i64 3, .int .i64 tk, .int .i64 dp] := blk_at rfl
  have hbx := Lib.hid (hbw.out.alloc (.cells #[.slice A2 0 cap, .int .i64 3, .int .i64 3, .int .i64 0, .int .i64 3, .int .i64 tk, .int .i64 dp] 44))
  clear hbw
  go_wp2_with fail
  generalize World.alloc _ _ = w3 at *
  refine (HD.out w3).mono ?_
  rintro e w4 ⟨rfl, hb4⟩
  rw [hio]
  go_wp2_with fail
  refine (alive_c w4).mono ?_
  rintro e w5 ⟨rfl, hb5⟩
  have O35 := (Only.ofBelow (F := fun _ => False) hb4).trans (Only.ofBelow (F := fun _ => False) hb5) fun _ _ h => h
  have BE5 := BE.only O35 (fun h => h)
  have y0 := BE5.cell 0
  have y1 := BE5.cell 1
  have y2 := BE5.cell 2
  have y3 := BE5.cell 3
  have y4 := BE5.cell 4
  simp only [List.getElem?_toArray, List.getElem?_cons_zero, List.getElem?_cons_succ] at y0 y1 y2 y3 y4
  have FIN := Lib.hid ((hbx.out.trans O35 fun _ _ h => h).toBelow (Nat.le_refl _) fun _ _ h => h)
  clear BE BE5 O35 hb4 hb5 hbx HI HD
  go_wp2_with fail
  go_ret
  exact ⟨rfl, FIN.out⟩
set_option maxRecDepth 100000 in
set_option maxHeartbeats 8000000 in
theorem words_5 (w : World) (op a b to : Int) (ha : i64in a) (hb : i64in b) (ho : bits .and .i64 op 15 = 5) (t : Nat) (ht : bits .and .i64 to 15 = (t : Int)) (htt : t < 16)  : Calls Try.prog 6 #[.int .i64 op, .int .i64 a, .int .i64 b, .int .i64 to] w fun e w' => e = .returned (.bool true) ∧ Below w.heap.size w w' := by
  obtain ⟨r1, r2, r3⟩ := words_did 8 a b 4 t (wdo 7 a b) (by simp [act, W2_a, W2_b])
  have hk : madeN (wordsK 8 a b 4 t) (9 : Int).toNat (newQ (wordsK 8 a b 4 t) []) ≤ 9 := madeN_le _ _ _
  have HI := Lib.hid (fun (w1 : World) (b1 : Nat) (cs : Array Value) (hB : Blk w1 b1 54 cs) (hcs : cs.toList = manyC insL (insOf (wordsL5 8 a b 4 t)) 5) => one_two (one_c w1 (fun x => x < w1.heap.size) (fun _ h => h) (some ⟨b1, 0, none⟩) 5 5 (insOf (wordsL5 8 a b 4 t)) 2 ⟨by decide, by decide⟩ (IL_blk hB hcs (words_in 8 a b 4 t ⟨by decide, by decide⟩ ha hb ⟨by decide, by decide⟩ ⟨by omega, by omega⟩) (by decide) hB.lt) (by decide) (fun h => by cases h) (by decide) (words_code 8 a b 4 t (by omega) (by omega) (by omega)) 2 0 (by decide) (by decide) (by decide) (by decide) 9 (by decide) (by decide) (by show ((madeN (wordsK 8 a b 4 t) (9 : Int).toNat (newQ (wordsK 8 a b 4 t) []) : Nat) : Int) < _; omega)) r1 r2 r3)
  have HD := Lib.hid (do_c 7 a b)
  have hio : isOp 7 = true := rfl
  clear r1 r2 r3 hk  ha hb
  go_enter Try.func6, Try.ntmps6
  go_wp2_with fail
  refine (HI.out _ _ _ (blk_at rfl) (by kernel_rfl)).mono ?_
  rintro e w2 ⟨eb, cap, k2, v2, tk, dp, rfl, v0, v1, hb2⟩
  have hbw := Lib.hid (((Only.refl (fun _ => False) w).alloc _).trans (Only.ofBelow (F := fun _ => False) hb2) fun _ _ h => h)
  clear hb2
  have BE : Blk (w2.alloc (.cells #[.slice (some ⟨eb, 0, none⟩) 1 cap, .int .i64 1, .int .i64 k2, .int .i64 v2, .int .i64 5, .int .i64 tk, .int .i64 dp] 44)) w2.heap.size 44 #[.slice (some ⟨eb, 0, none⟩) 1 cap, .int .i64 1, .int .i64 k2, .int .i64 v2, .int .i64 5, .int .i64 tk, .int .i64 dp] := blk_at rfl
  have v0' := (World.cell?_alloc_past (w := w2) (.cells #[.slice (some ⟨eb, 0, none⟩) 1 cap, .int .i64 1, .int .i64 k2, .int .i64 v2, .int .i64 5, .int .i64 tk, .int .i64 dp] 44) eb 0 (World.block_lt_of_cell? w2 _ v0)).trans v0
  have v1' := (World.cell?_alloc_past (w := w2) (.cells #[.slice (some ⟨eb, 0, none⟩) 1 cap, .int .i64 1, .int .i64 k2, .int .i64 v2, .int .i64 5, .int .i64 tk, .int .i64 dp] 44) eb 1 (World.block_lt_of_cell? w2 _ v1)).trans v1
  have hbx := Lib.hid (hbw.out.alloc (.cells #[.slice (some ⟨eb, 0, none⟩) 1 cap, .int .i64 1, .int .i64 k2, .int .i64 v2, .int .i64 5, .int .i64 tk, .int .i64 dp] 44))
  clear hbw
  go_wp2_with fail
  generalize World.alloc _ _ = w3 at *
  refine (HD.out w3).mono ?_
  rintro e w4 ⟨rfl, hb4⟩
  rw [hio]
  go_wp2_with fail
  refine (alive_c w4).mono ?_
  rintro e w5 ⟨rfl, hb5⟩
  have O35 := (Only.ofBelow (F := fun _ => False) hb4).trans (Only.ofBelow (F := fun _ => False) hb5) fun _ _ h => h
  have BE5 := BE.only O35 (fun h => h)
  have y0 := BE5.cell 0
  have y1 := BE5.cell 1
  have y2 := BE5.cell 2
  have y3 := BE5.cell 3
  have y4 := BE5.cell 4
  simp only [List.getElem?_toArray, List.getElem?_cons_zero, List.getElem?_cons_succ] at y0 y1 y2 y3 y4
  have u0 := (O35.cell (b := eb) (o := 0) (World.block_lt_of_cell? w3 _ v0') (fun h => h)).trans v0'
  have u1 := (O35.cell (b := eb) (o := 1) (World.block_lt_of_cell? w3 _ v1') (fun h => h)).trans v1'
  clear v0 v1 v0' v1'
  have FIN := Lib.hid ((hbx.out.trans O35 fun _ _ h => h).toBelow (Nat.le_refl _) fun _ _ h => h)
  clear BE BE5 O35 hb4 hb5 hbx HI HD
  go_wp2_with fail
  go_ret
  exact ⟨rfl, FIN.out⟩
set_option maxRecDepth 100000 in
set_option maxHeartbeats 8000000 in
theorem words_6 (w : World) (op a b to : Int) (ha : i64in a) (hb : i64in b) (ho : bits .and .i64 op 15 = 6) (t : Nat) (ht : bits .and .i64 to 15 = (t : Int)) (htt : t < 16)  : Calls Try.prog 6 #[.int .i64 op, .int .i64 a, .int .i64 b, .int .i64 to] w fun e w' => e = .returned (.bool true) ∧ Below w.heap.size w w' := by
  obtain ⟨r1, r2, r3⟩ := words_did 9 a b 4 t (wdo 8 a b) (by simp [act, W2_a, W2_b])
  have hk : madeN (wordsK 9 a b 4 t) (9 : Int).toNat (newQ (wordsK 9 a b 4 t) []) ≤ 9 := madeN_le _ _ _
  have HI := Lib.hid (fun (w1 : World) (b1 : Nat) (cs : Array Value) (hB : Blk w1 b1 54 cs) (hcs : cs.toList = manyC insL (insOf (wordsL5 9 a b 4 t)) 5) => one_two (one_c w1 (fun x => x < w1.heap.size) (fun _ h => h) (some ⟨b1, 0, none⟩) 5 5 (insOf (wordsL5 9 a b 4 t)) 2 ⟨by decide, by decide⟩ (IL_blk hB hcs (words_in 9 a b 4 t ⟨by decide, by decide⟩ ha hb ⟨by decide, by decide⟩ ⟨by omega, by omega⟩) (by decide) hB.lt) (by decide) (fun h => by cases h) (by decide) (words_code 9 a b 4 t (by omega) (by omega) (by omega)) 2 0 (by decide) (by decide) (by decide) (by decide) 9 (by decide) (by decide) (by show ((madeN (wordsK 9 a b 4 t) (9 : Int).toNat (newQ (wordsK 9 a b 4 t) []) : Nat) : Int) < _; omega)) r1 r2 r3)
  have HD := Lib.hid (do_c 8 a b)
  have hio : isOp 8 = true := rfl
  clear r1 r2 r3 hk  ha hb
  go_enter Try.func6, Try.ntmps6
  go_wp2_with fail
  refine (HI.out _ _ _ (blk_at rfl) (by kernel_rfl)).mono ?_
  rintro e w2 ⟨eb, cap, k2, v2, tk, dp, rfl, v0, v1, hb2⟩
  have hbw := Lib.hid (((Only.refl (fun _ => False) w).alloc _).trans (Only.ofBelow (F := fun _ => False) hb2) fun _ _ h => h)
  clear hb2
  have BE : Blk (w2.alloc (.cells #[.slice (some ⟨eb, 0, none⟩) 1 cap, .int .i64 1, .int .i64 k2, .int .i64 v2, .int .i64 5, .int .i64 tk, .int .i64 dp] 44)) w2.heap.size 44 #[.slice (some ⟨eb, 0, none⟩) 1 cap, .int .i64 1, .int .i64 k2, .int .i64 v2, .int .i64 5, .int .i64 tk, .int .i64 dp] := blk_at rfl
  have v0' := (World.cell?_alloc_past (w := w2) (.cells #[.slice (some ⟨eb, 0, none⟩) 1 cap, .int .i64 1, .int .i64 k2, .int .i64 v2, .int .i64 5, .int .i64 tk, .int .i64 dp] 44) eb 0 (World.block_lt_of_cell? w2 _ v0)).trans v0
  have v1' := (World.cell?_alloc_past (w := w2) (.cells #[.slice (some ⟨eb, 0, none⟩) 1 cap, .int .i64 1, .int .i64 k2, .int .i64 v2, .int .i64 5, .int .i64 tk, .int .i64 dp] 44) eb 1 (World.block_lt_of_cell? w2 _ v1)).trans v1
  have hbx := Lib.hid (hbw.out.alloc (.cells #[.slice (some ⟨eb, 0, none⟩) 1 cap, .int .i64 1, .int .i64 k2, .int .i64 v2, .int .i64 5, .int .i64 tk, .int .i64 dp] 44))
  clear hbw
  go_wp2_with fail
  generalize World.alloc _ _ = w3 at *
  refine (HD.out w3).mono ?_
  rintro e w4 ⟨rfl, hb4⟩
  rw [hio]
  go_wp2_with fail
  refine (alive_c w4).mono ?_
  rintro e w5 ⟨rfl, hb5⟩
  have O35 := (Only.ofBelow (F := fun _ => False) hb4).trans (Only.ofBelow (F := fun _ => False) hb5) fun _ _ h => h
  have BE5 := BE.only O35 (fun h => h)
  have y0 := BE5.cell 0
  have y1 := BE5.cell 1
  have y2 := BE5.cell 2
  have y3 := BE5.cell 3
  have y4 := BE5.cell 4
  simp only [List.getElem?_toArray, List.getElem?_cons_zero, List.getElem?_cons_succ] at y0 y1 y2 y3 y4
  have u0 := (O35.cell (b := eb) (o := 0) (World.block_lt_of_cell? w3 _ v0') (fun h => h)).trans v0'
  have u1 := (O35.cell (b := eb) (o := 1) (World.block_lt_of_cell? w3 _ v1') (fun h => h)).trans v1'
  clear v0 v1 v0' v1'
  have FIN := Lib.hid ((hbx.out.trans O35 fun _ _ h => h).toBelow (Nat.le_refl _) fun _ _ h => h)
  clear BE BE5 O35 hb4 hb5 hbx HI HD
  go_wp2_with fail
  go_ret
  exact ⟨rfl, FIN.out⟩
set_option maxRecDepth 100000 in
set_option maxHeartbeats 8000000 in
theorem words_7 (w : World) (op a b to : Int) (ha : i64in a) (hb : i64in b) (ho : bits .and .i64 op 15 = 7) (t : Nat) (ht : bits .and .i64 to 15 = (t : Int)) (htt : t < 16)  : Calls Try.prog 6 #[.int .i64 op, .int .i64 a, .int .i64 b, .int .i64 to] w fun e w' => e = .returned (.bool true) ∧ Below w.heap.size w w' := by
  obtain ⟨r1, r2, r3⟩ := words_did 10 a b 4 t (wdo 9 a b) (by simp [act, W2_a, W2_b])
  have hk : madeN (wordsK 10 a b 4 t) (9 : Int).toNat (newQ (wordsK 10 a b 4 t) []) ≤ 9 := madeN_le _ _ _
  have HI := Lib.hid (fun (w1 : World) (b1 : Nat) (cs : Array Value) (hB : Blk w1 b1 54 cs) (hcs : cs.toList = manyC insL (insOf (wordsL5 10 a b 4 t)) 5) => one_two (one_c w1 (fun x => x < w1.heap.size) (fun _ h => h) (some ⟨b1, 0, none⟩) 5 5 (insOf (wordsL5 10 a b 4 t)) 2 ⟨by decide, by decide⟩ (IL_blk hB hcs (words_in 10 a b 4 t ⟨by decide, by decide⟩ ha hb ⟨by decide, by decide⟩ ⟨by omega, by omega⟩) (by decide) hB.lt) (by decide) (fun h => by cases h) (by decide) (words_code 10 a b 4 t (by omega) (by omega) (by omega)) 2 0 (by decide) (by decide) (by decide) (by decide) 9 (by decide) (by decide) (by show ((madeN (wordsK 10 a b 4 t) (9 : Int).toNat (newQ (wordsK 10 a b 4 t) []) : Nat) : Int) < _; omega)) r1 r2 r3)
  have HD := Lib.hid (do_c 9 a b)
  have hio : isOp 9 = true := rfl
  clear r1 r2 r3 hk  ha hb
  go_enter Try.func6, Try.ntmps6
  go_wp2_with fail
  refine (HI.out _ _ _ (blk_at rfl) (by kernel_rfl)).mono ?_
  rintro e w2 ⟨eb, cap, k2, v2, tk, dp, rfl, v0, v1, hb2⟩
  have hbw := Lib.hid (((Only.refl (fun _ => False) w).alloc _).trans (Only.ofBelow (F := fun _ => False) hb2) fun _ _ h => h)
  clear hb2
  have BE : Blk (w2.alloc (.cells #[.slice (some ⟨eb, 0, none⟩) 1 cap, .int .i64 1, .int .i64 k2, .int .i64 v2, .int .i64 5, .int .i64 tk, .int .i64 dp] 44)) w2.heap.size 44 #[.slice (some ⟨eb, 0, none⟩) 1 cap, .int .i64 1, .int .i64 k2, .int .i64 v2, .int .i64 5, .int .i64 tk, .int .i64 dp] := blk_at rfl
  have v0' := (World.cell?_alloc_past (w := w2) (.cells #[.slice (some ⟨eb, 0, none⟩) 1 cap, .int .i64 1, .int .i64 k2, .int .i64 v2, .int .i64 5, .int .i64 tk, .int .i64 dp] 44) eb 0 (World.block_lt_of_cell? w2 _ v0)).trans v0
  have v1' := (World.cell?_alloc_past (w := w2) (.cells #[.slice (some ⟨eb, 0, none⟩) 1 cap, .int .i64 1, .int .i64 k2, .int .i64 v2, .int .i64 5, .int .i64 tk, .int .i64 dp] 44) eb 1 (World.block_lt_of_cell? w2 _ v1)).trans v1
  have hbx := Lib.hid (hbw.out.alloc (.cells #[.slice (some ⟨eb, 0, none⟩) 1 cap, .int .i64 1, .int .i64 k2, .int .i64 v2, .int .i64 5, .int .i64 tk, .int .i64 dp] 44))
  clear hbw
  go_wp2_with fail
  generalize World.alloc _ _ = w3 at *
  refine (HD.out w3).mono ?_
  rintro e w4 ⟨rfl, hb4⟩
  rw [hio]
  go_wp2_with fail
  refine (alive_c w4).mono ?_
  rintro e w5 ⟨rfl, hb5⟩
  have O35 := (Only.ofBelow (F := fun _ => False) hb4).trans (Only.ofBelow (F := fun _ => False) hb5) fun _ _ h => h
  have BE5 := BE.only O35 (fun h => h)
  have y0 := BE5.cell 0
  have y1 := BE5.cell 1
  have y2 := BE5.cell 2
  have y3 := BE5.cell 3
  have y4 := BE5.cell 4
  simp only [List.getElem?_toArray, List.getElem?_cons_zero, List.getElem?_cons_succ] at y0 y1 y2 y3 y4
  have u0 := (O35.cell (b := eb) (o := 0) (World.block_lt_of_cell? w3 _ v0') (fun h => h)).trans v0'
  have u1 := (O35.cell (b := eb) (o := 1) (World.block_lt_of_cell? w3 _ v1') (fun h => h)).trans v1'
  clear v0 v1 v0' v1'
  have FIN := Lib.hid ((hbx.out.trans O35 fun _ _ h => h).toBelow (Nat.le_refl _) fun _ _ h => h)
  clear BE BE5 O35 hb4 hb5 hbx HI HD
  go_wp2_with fail
  go_ret
  exact ⟨rfl, FIN.out⟩
set_option maxRecDepth 100000 in
set_option maxHeartbeats 8000000 in
theorem words_8 (w : World) (op a b to : Int) (ha : i64in a) (hb : i64in b) (ho : bits .and .i64 op 15 = 8) (t : Nat) (ht : bits .and .i64 to 15 = (t : Int)) (htt : t < 16)  : Calls Try.prog 6 #[.int .i64 op, .int .i64 a, .int .i64 b, .int .i64 to] w fun e w' => e = .returned (.bool true) ∧ Below w.heap.size w w' := by
  obtain ⟨r1, r2, r3⟩ := words_did 11 a b 4 t (wdo 10 a b) (by simp [act, W2_a, W2_b])
  have hk : madeN (wordsK 11 a b 4 t) (9 : Int).toNat (newQ (wordsK 11 a b 4 t) []) ≤ 9 := madeN_le _ _ _
  have HI := Lib.hid (fun (w1 : World) (b1 : Nat) (cs : Array Value) (hB : Blk w1 b1 54 cs) (hcs : cs.toList = manyC insL (insOf (wordsL5 11 a b 4 t)) 5) => one_two (one_c w1 (fun x => x < w1.heap.size) (fun _ h => h) (some ⟨b1, 0, none⟩) 5 5 (insOf (wordsL5 11 a b 4 t)) 2 ⟨by decide, by decide⟩ (IL_blk hB hcs (words_in 11 a b 4 t ⟨by decide, by decide⟩ ha hb ⟨by decide, by decide⟩ ⟨by omega, by omega⟩) (by decide) hB.lt) (by decide) (fun h => by cases h) (by decide) (words_code 11 a b 4 t (by omega) (by omega) (by omega)) 2 0 (by decide) (by decide) (by decide) (by decide) 9 (by decide) (by decide) (by show ((madeN (wordsK 11 a b 4 t) (9 : Int).toNat (newQ (wordsK 11 a b 4 t) []) : Nat) : Int) < _; omega)) r1 r2 r3)
  have HD := Lib.hid (do_c 10 a b)
  have hio : isOp 10 = true := rfl
  clear r1 r2 r3 hk  ha hb
  go_enter Try.func6, Try.ntmps6
  go_wp2_with fail
  refine (HI.out _ _ _ (blk_at rfl) (by kernel_rfl)).mono ?_
  rintro e w2 ⟨eb, cap, k2, v2, tk, dp, rfl, v0, v1, hb2⟩
  have hbw := Lib.hid (((Only.refl (fun _ => False) w).alloc _).trans (Only.ofBelow (F := fun _ => False) hb2) fun _ _ h => h)
  clear hb2
  have BE : Blk (w2.alloc (.cells #[.slice (some ⟨eb, 0, none⟩) 1 cap, .int .i64 1, .int .i64 k2, .int .i64 v2, .int .i64 5, .int .i64 tk, .int .i64 dp] 44)) w2.heap.size 44 #[.slice (some ⟨eb, 0, none⟩) 1 cap, .int .i64 1, .int .i64 k2, .int .i64 v2, .int .i64 5, .int .i64 tk, .int .i64 dp] := blk_at rfl
  have v0' := (World.cell?_alloc_past (w := w2) (.cells #[.slice (some ⟨eb, 0, none⟩) 1 cap, .int .i64 1, .int .i64 k2, .int .i64 v2, .int .i64 5, .int .i64 tk, .int .i64 dp] 44) eb 0 (World.block_lt_of_cell? w2 _ v0)).trans v0
  have v1' := (World.cell?_alloc_past (w := w2) (.cells #[.slice (some ⟨eb, 0, none⟩) 1 cap, .int .i64 1, .int .i64 k2, .int .i64 v2, .int .i64 5, .int .i64 tk, .int .i64 dp] 44) eb 1 (World.block_lt_of_cell? w2 _ v1)).trans v1
  have hbx := Lib.hid (hbw.out.alloc (.cells #[.slice (some ⟨eb, 0, none⟩) 1 cap, .int .i64 1, .int .i64 k2, .int .i64 v2, .int .i64 5, .int .i64 tk, .int .i64 dp] 44))
  clear hbw
  go_wp2_with fail
  generalize World.alloc _ _ = w3 at *
  refine (HD.out w3).mono ?_
  rintro e w4 ⟨rfl, hb4⟩
  rw [hio]
  go_wp2_with fail
  refine (alive_c w4).mono ?_
  rintro e w5 ⟨rfl, hb5⟩
  have O35 := (Only.ofBelow (F := fun _ => False) hb4).trans (Only.ofBelow (F := fun _ => False) hb5) fun _ _ h => h
  have BE5 := BE.only O35 (fun h => h)
  have y0 := BE5.cell 0
  have y1 := BE5.cell 1
  have y2 := BE5.cell 2
  have y3 := BE5.cell 3
  have y4 := BE5.cell 4
  simp only [List.getElem?_toArray, List.getElem?_cons_zero, List.getElem?_cons_succ] at y0 y1 y2 y3 y4
  have u0 := (O35.cell (b := eb) (o := 0) (World.block_lt_of_cell? w3 _ v0') (fun h => h)).trans v0'
  have u1 := (O35.cell (b := eb) (o := 1) (World.block_lt_of_cell? w3 _ v1') (fun h => h)).trans v1'
  clear v0 v1 v0' v1'
  have FIN := Lib.hid ((hbx.out.trans O35 fun _ _ h => h).toBelow (Nat.le_refl _) fun _ _ h => h)
  clear BE BE5 O35 hb4 hb5 hbx HI HD
  go_wp2_with fail
  go_ret
  exact ⟨rfl, FIN.out⟩
set_option maxRecDepth 100000 in
set_option maxHeartbeats 8000000 in
theorem words_9 (w : World) (op a b to : Int) (ha : i64in a) (hb : i64in b) (ho : bits .and .i64 op 15 = 9) (t : Nat) (ht : bits .and .i64 to 15 = (t : Int)) (htt : t < 16) (hs : ¬ b < 0) : Calls Try.prog 6 #[.int .i64 op, .int .i64 a, .int .i64 b, .int .i64 to] w fun e w' => e = .returned (.bool true) ∧ Below w.heap.size w w' := by
  have hs1 : decide (b < 0) = false := decide_eq_false hs
  obtain ⟨r1, r2, r3⟩ := words_did 12 a b 4 t (wdo 11 a b) (by simp [act, W2_a, W2_b, hs])
  have hk : madeN (wordsK 12 a b 4 t) (9 : Int).toNat (newQ (wordsK 12 a b 4 t) []) ≤ 9 := madeN_le _ _ _
  have HI := Lib.hid (fun (w1 : World) (b1 : Nat) (cs : Array Value) (hB : Blk w1 b1 54 cs) (hcs : cs.toList = manyC insL (insOf (wordsL5 12 a b 4 t)) 5) => one_two (one_c w1 (fun x => x < w1.heap.size) (fun _ h => h) (some ⟨b1, 0, none⟩) 5 5 (insOf (wordsL5 12 a b 4 t)) 2 ⟨by decide, by decide⟩ (IL_blk hB hcs (words_in 12 a b 4 t ⟨by decide, by decide⟩ ha hb ⟨by decide, by decide⟩ ⟨by omega, by omega⟩) (by decide) hB.lt) (by decide) (fun h => by cases h) (by decide) (words_code 12 a b 4 t (by omega) (by omega) (by omega)) 2 0 (by decide) (by decide) (by decide) (by decide) 9 (by decide) (by decide) (by show ((madeN (wordsK 12 a b 4 t) (9 : Int).toNat (newQ (wordsK 12 a b 4 t) []) : Nat) : Int) < _; omega)) r1 r2 r3)
  have HD := Lib.hid (do_c 11 a b)
  have hio : isOp 11 = true := rfl
  clear r1 r2 r3 hk  ha hb
  go_enter Try.func6, Try.ntmps6
  go_wp2_with fail
  refine (HI.out _ _ _ (blk_at rfl) (by kernel_rfl)).mono ?_
  rintro e w2 ⟨eb, cap, k2, v2, tk, dp, rfl, v0, v1, hb2⟩
  have hbw := Lib.hid (((Only.refl (fun _ => False) w).alloc _).trans (Only.ofBelow (F := fun _ => False) hb2) fun _ _ h => h)
  clear hb2
  have BE : Blk (w2.alloc (.cells #[.slice (some ⟨eb, 0, none⟩) 1 cap, .int .i64 1, .int .i64 k2, .int .i64 v2, .int .i64 5, .int .i64 tk, .int .i64 dp] 44)) w2.heap.size 44 #[.slice (some ⟨eb, 0, none⟩) 1 cap, .int .i64 1, .int .i64 k2, .int .i64 v2, .int .i64 5, .int .i64 tk, .int .i64 dp] := blk_at rfl
  have v0' := (World.cell?_alloc_past (w := w2) (.cells #[.slice (some ⟨eb, 0, none⟩) 1 cap, .int .i64 1, .int .i64 k2, .int .i64 v2, .int .i64 5, .int .i64 tk, .int .i64 dp] 44) eb 0 (World.block_lt_of_cell? w2 _ v0)).trans v0
  have v1' := (World.cell?_alloc_past (w := w2) (.cells #[.slice (some ⟨eb, 0, none⟩) 1 cap, .int .i64 1, .int .i64 k2, .int .i64 v2, .int .i64 5, .int .i64 tk, .int .i64 dp] 44) eb 1 (World.block_lt_of_cell? w2 _ v1)).trans v1
  have hbx := Lib.hid (hbw.out.alloc (.cells #[.slice (some ⟨eb, 0, none⟩) 1 cap, .int .i64 1, .int .i64 k2, .int .i64 v2, .int .i64 5, .int .i64 tk, .int .i64 dp] 44))
  clear hbw
  go_wp2_with fail
  generalize World.alloc _ _ = w3 at *
  refine (HD.out w3).mono ?_
  rintro e w4 ⟨rfl, hb4⟩
  rw [hio]
  go_wp2_with fail
  refine (alive_c w4).mono ?_
  rintro e w5 ⟨rfl, hb5⟩
  have O35 := (Only.ofBelow (F := fun _ => False) hb4).trans (Only.ofBelow (F := fun _ => False) hb5) fun _ _ h => h
  have BE5 := BE.only O35 (fun h => h)
  have y0 := BE5.cell 0
  have y1 := BE5.cell 1
  have y2 := BE5.cell 2
  have y3 := BE5.cell 3
  have y4 := BE5.cell 4
  simp only [List.getElem?_toArray, List.getElem?_cons_zero, List.getElem?_cons_succ] at y0 y1 y2 y3 y4
  have u0 := (O35.cell (b := eb) (o := 0) (World.block_lt_of_cell? w3 _ v0') (fun h => h)).trans v0'
  have u1 := (O35.cell (b := eb) (o := 1) (World.block_lt_of_cell? w3 _ v1') (fun h => h)).trans v1'
  clear v0 v1 v0' v1'
  have FIN := Lib.hid ((hbx.out.trans O35 fun _ _ h => h).toBelow (Nat.le_refl _) fun _ _ h => h)
  clear BE BE5 O35 hb4 hb5 hbx HI HD
  go_wp2_with fail
  go_ret
  exact ⟨rfl, FIN.out⟩
set_option maxRecDepth 100000 in
set_option maxHeartbeats 8000000 in
theorem words_9_stuck (w : World) (op a b to : Int) (ha : i64in a) (hb : i64in b) (ho : bits .and .i64 op 15 = 9) (t : Nat) (ht : bits .and .i64 to 15 = (t : Int)) (htt : t < 16) (hs : b < 0) : Calls Try.prog 6 #[.int .i64 op, .int .i64 a, .int .i64 b, .int .i64 to] w fun e w' => e = .returned (.bool true) ∧ Below w.heap.size w w' := by
  have hs1 : decide (b < 0) = true := decide_eq_true hs
  have hrun := words_stuck 12 a b 4 t 4 (by simp [act, W2_b, hs])
  have r1 : (runN (wordsK 12 a b 4 t) 9 (newQ (wordsK 12 a b 4 t) [])).fin = 3 := by rw [hrun]; rfl
  have r2 : (runN (wordsK 12 a b 4 t) 9 (newQ (wordsK 12 a b 4 t) [])).steps = 3 := by rw [hrun]; rfl
  have r3 : (runN (wordsK 12 a b 4 t) 9 (newQ (wordsK 12 a b 4 t) [])).ev = [] := by rw [hrun]; rfl
  have r4 : (runN (wordsK 12 a b 4 t) 9 (newQ (wordsK 12 a b 4 t) [])).kind = 4 := by rw [hrun]; rfl
  have r5 : (runN (wordsK 12 a b 4 t) 9 (newQ (wordsK 12 a b 4 t) [])).val = 0 := by rw [hrun]; rfl
  have hk : madeN (wordsK 12 a b 4 t) (9 : Int).toNat (newQ (wordsK 12 a b 4 t) []) ≤ 9 := madeN_le _ _ _
  have HI := Lib.hid (fun (w1 : World) (b1 : Nat) (cs : Array Value) (hB : Blk w1 b1 54 cs) (hcs : cs.toList = manyC insL (insOf (wordsL5 12 a b 4 t)) 5) => one_none (one_c w1 (fun x => x < w1.heap.size) (fun _ h => h) (some ⟨b1, 0, none⟩) 5 5 (insOf (wordsL5 12 a b 4 t)) 2 ⟨by decide, by decide⟩ (IL_blk hB hcs (words_in 12 a b 4 t ⟨by decide, by decide⟩ ha hb ⟨by decide, by decide⟩ ⟨by omega, by omega⟩) (by decide) hB.lt) (by decide) (fun h => by cases h) (by decide) (words_code 12 a b 4 t (by omega) (by omega) (by omega)) 2 0 (by decide) (by decide) (by decide) (by decide) 9 (by decide) (by decide) (by show ((madeN (wordsK 12 a b 4 t) (9 : Int).toNat (newQ (wordsK 12 a b 4 t) []) : Nat) : Int) < _; omega)) r1 r2 r3 r4 r5)
  have HD := Lib.hid (do_c 11 a b)
  have hio : isOp 11 = true := rfl
  clear r1 r2 r3 hk r4 r5 hrun ha hb
  go_enter Try.func6, Try.ntmps6
  go_wp2_with fail
  refine (HI.out _ _ _ (blk_at rfl) (by kernel_rfl)).mono ?_
  rintro e w2 ⟨A2, cap, tk, dp, rfl, hb2⟩
  have hbw := Lib.hid (((Only.refl (fun _ => False) w).alloc _).trans (Only.ofBelow (F := fun _ => False) hb2) fun _ _ h => h)
  clear hb2
  have BE : Blk (w2.alloc (.cells #[.slice A2 0 cap, .int .i64 3, .int .i64 4, .int .i64 0, .int .i64 3, .int .i64 tk, .int .i64 dp] 44)) w2.heap.size 44 #[.slice A2 0 cap, .int .i64 3, .int .i64 4, .int .i64 0, .int .i64 3, .int .i64 tk, .int .i64 dp] := blk_at rfl
  have hbx := Lib.hid (hbw.out.alloc (.cells #[.slice A2 0 cap, .int .i64 3, .int .i64 4, .int .i64 0, .int .i64 3, .int .i64 tk, .int .i64 dp] 44))
  clear hbw
  go_wp2_with fail
  generalize World.alloc _ _ = w3 at *
  refine (HD.out w3).mono ?_
  rintro e w4 ⟨rfl, hb4⟩
  rw [hio]
  go_wp2_with fail
  refine (alive_c w4).mono ?_
  rintro e w5 ⟨rfl, hb5⟩
  have O35 := (Only.ofBelow (F := fun _ => False) hb4).trans (Only.ofBelow (F := fun _ => False) hb5) fun _ _ h => h
  have BE5 := BE.only O35 (fun h => h)
  have y0 := BE5.cell 0
  have y1 := BE5.cell 1
  have y2 := BE5.cell 2
  have y3 := BE5.cell 3
  have y4 := BE5.cell 4
  simp only [List.getElem?_toArray, List.getElem?_cons_zero, List.getElem?_cons_succ] at y0 y1 y2 y3 y4
  have FIN := Lib.hid ((hbx.out.trans O35 fun _ _ h => h).toBelow (Nat.le_refl _) fun _ _ h => h)
  clear BE BE5 O35 hb4 hb5 hbx HI HD
  go_wp2_with fail
  go_ret
  exact ⟨rfl, FIN.out⟩
set_option maxRecDepth 100000 in
set_option maxHeartbeats 8000000 in
theorem words_10 (w : World) (op a b to : Int) (ha : i64in a) (hb : i64in b) (ho : bits .and .i64 op 15 = 10) (t : Nat) (ht : bits .and .i64 to 15 = (t : Int)) (htt : t < 16) (hs : ¬ b < 0) : Calls Try.prog 6 #[.int .i64 op, .int .i64 a, .int .i64 b, .int .i64 to] w fun e w' => e = .returned (.bool true) ∧ Below w.heap.size w w' := by
  have hs1 : decide (b < 0) = false := decide_eq_false hs
  obtain ⟨r1, r2, r3⟩ := words_did 13 a b 4 t (wdo 12 a b) (by simp [act, W2_a, W2_b, hs])
  have hk : madeN (wordsK 13 a b 4 t) (9 : Int).toNat (newQ (wordsK 13 a b 4 t) []) ≤ 9 := madeN_le _ _ _
  have HI := Lib.hid (fun (w1 : World) (b1 : Nat) (cs : Array Value) (hB : Blk w1 b1 54 cs) (hcs : cs.toList = manyC insL (insOf (wordsL5 13 a b 4 t)) 5) => one_two (one_c w1 (fun x => x < w1.heap.size) (fun _ h => h) (some ⟨b1, 0, none⟩) 5 5 (insOf (wordsL5 13 a b 4 t)) 2 ⟨by decide, by decide⟩ (IL_blk hB hcs (words_in 13 a b 4 t ⟨by decide, by decide⟩ ha hb ⟨by decide, by decide⟩ ⟨by omega, by omega⟩) (by decide) hB.lt) (by decide) (fun h => by cases h) (by decide) (words_code 13 a b 4 t (by omega) (by omega) (by omega)) 2 0 (by decide) (by decide) (by decide) (by decide) 9 (by decide) (by decide) (by show ((madeN (wordsK 13 a b 4 t) (9 : Int).toNat (newQ (wordsK 13 a b 4 t) []) : Nat) : Int) < _; omega)) r1 r2 r3)
  have HD := Lib.hid (do_c 12 a b)
  have hio : isOp 12 = true := rfl
  clear r1 r2 r3 hk  ha hb
  go_enter Try.func6, Try.ntmps6
  go_wp2_with fail
  refine (HI.out _ _ _ (blk_at rfl) (by kernel_rfl)).mono ?_
  rintro e w2 ⟨eb, cap, k2, v2, tk, dp, rfl, v0, v1, hb2⟩
  have hbw := Lib.hid (((Only.refl (fun _ => False) w).alloc _).trans (Only.ofBelow (F := fun _ => False) hb2) fun _ _ h => h)
  clear hb2
  have BE : Blk (w2.alloc (.cells #[.slice (some ⟨eb, 0, none⟩) 1 cap, .int .i64 1, .int .i64 k2, .int .i64 v2, .int .i64 5, .int .i64 tk, .int .i64 dp] 44)) w2.heap.size 44 #[.slice (some ⟨eb, 0, none⟩) 1 cap, .int .i64 1, .int .i64 k2, .int .i64 v2, .int .i64 5, .int .i64 tk, .int .i64 dp] := blk_at rfl
  have v0' := (World.cell?_alloc_past (w := w2) (.cells #[.slice (some ⟨eb, 0, none⟩) 1 cap, .int .i64 1, .int .i64 k2, .int .i64 v2, .int .i64 5, .int .i64 tk, .int .i64 dp] 44) eb 0 (World.block_lt_of_cell? w2 _ v0)).trans v0
  have v1' := (World.cell?_alloc_past (w := w2) (.cells #[.slice (some ⟨eb, 0, none⟩) 1 cap, .int .i64 1, .int .i64 k2, .int .i64 v2, .int .i64 5, .int .i64 tk, .int .i64 dp] 44) eb 1 (World.block_lt_of_cell? w2 _ v1)).trans v1
  have hbx := Lib.hid (hbw.out.alloc (.cells #[.slice (some ⟨eb, 0, none⟩) 1 cap, .int .i64 1, .int .i64 k2, .int .i64 v2, .int .i64 5, .int .i64 tk, .int .i64 dp] 44))
  clear hbw
  go_wp2_with fail
  generalize World.alloc _ _ = w3 at *
  refine (HD.out w3).mono ?_
  rintro e w4 ⟨rfl, hb4⟩
  rw [hio]
  go_wp2_with fail
  refine (alive_c w4).mono ?_
  rintro e w5 ⟨rfl, hb5⟩
  have O35 := (Only.ofBelow (F := fun _ => False) hb4).trans (Only.ofBelow (F := fun _ => False) hb5) fun _ _ h => h
  have BE5 := BE.only O35 (fun h => h)
  have y0 := BE5.cell 0
  have y1 := BE5.cell 1
  have y2 := BE5.cell 2
  have y3 := BE5.cell 3
  have y4 := BE5.cell 4
  simp only [List.getElem?_toArray, List.getElem?_cons_zero, List.getElem?_cons_succ] at y0 y1 y2 y3 y4
  have u0 := (O35.cell (b := eb) (o := 0) (World.block_lt_of_cell? w3 _ v0') (fun h => h)).trans v0'
  have u1 := (O35.cell (b := eb) (o := 1) (World.block_lt_of_cell? w3 _ v1') (fun h => h)).trans v1'
  clear v0 v1 v0' v1'
  have FIN := Lib.hid ((hbx.out.trans O35 fun _ _ h => h).toBelow (Nat.le_refl _) fun _ _ h => h)
  clear BE BE5 O35 hb4 hb5 hbx HI HD
  go_wp2_with fail
  go_ret
  exact ⟨rfl, FIN.out⟩
set_option maxRecDepth 100000 in
set_option maxHeartbeats 8000000 in
theorem words_10_stuck (w : World) (op a b to : Int) (ha : i64in a) (hb : i64in b) (ho : bits .and .i64 op 15 = 10) (t : Nat) (ht : bits .and .i64 to 15 = (t : Int)) (htt : t < 16) (hs : b < 0) : Calls Try.prog 6 #[.int .i64 op, .int .i64 a, .int .i64 b, .int .i64 to] w fun e w' => e = .returned (.bool true) ∧ Below w.heap.size w w' := by
  have hs1 : decide (b < 0) = true := decide_eq_true hs
  have hrun := words_stuck 13 a b 4 t 4 (by simp [act, W2_b, hs])
  have r1 : (runN (wordsK 13 a b 4 t) 9 (newQ (wordsK 13 a b 4 t) [])).fin = 3 := by rw [hrun]; rfl
  have r2 : (runN (wordsK 13 a b 4 t) 9 (newQ (wordsK 13 a b 4 t) [])).steps = 3 := by rw [hrun]; rfl
  have r3 : (runN (wordsK 13 a b 4 t) 9 (newQ (wordsK 13 a b 4 t) [])).ev = [] := by rw [hrun]; rfl
  have r4 : (runN (wordsK 13 a b 4 t) 9 (newQ (wordsK 13 a b 4 t) [])).kind = 4 := by rw [hrun]; rfl
  have r5 : (runN (wordsK 13 a b 4 t) 9 (newQ (wordsK 13 a b 4 t) [])).val = 0 := by rw [hrun]; rfl
  have hk : madeN (wordsK 13 a b 4 t) (9 : Int).toNat (newQ (wordsK 13 a b 4 t) []) ≤ 9 := madeN_le _ _ _
  have HI := Lib.hid (fun (w1 : World) (b1 : Nat) (cs : Array Value) (hB : Blk w1 b1 54 cs) (hcs : cs.toList = manyC insL (insOf (wordsL5 13 a b 4 t)) 5) => one_none (one_c w1 (fun x => x < w1.heap.size) (fun _ h => h) (some ⟨b1, 0, none⟩) 5 5 (insOf (wordsL5 13 a b 4 t)) 2 ⟨by decide, by decide⟩ (IL_blk hB hcs (words_in 13 a b 4 t ⟨by decide, by decide⟩ ha hb ⟨by decide, by decide⟩ ⟨by omega, by omega⟩) (by decide) hB.lt) (by decide) (fun h => by cases h) (by decide) (words_code 13 a b 4 t (by omega) (by omega) (by omega)) 2 0 (by decide) (by decide) (by decide) (by decide) 9 (by decide) (by decide) (by show ((madeN (wordsK 13 a b 4 t) (9 : Int).toNat (newQ (wordsK 13 a b 4 t) []) : Nat) : Int) < _; omega)) r1 r2 r3 r4 r5)
  have HD := Lib.hid (do_c 12 a b)
  have hio : isOp 12 = true := rfl
  clear r1 r2 r3 hk r4 r5 hrun ha hb
  go_enter Try.func6, Try.ntmps6
  go_wp2_with fail
  refine (HI.out _ _ _ (blk_at rfl) (by kernel_rfl)).mono ?_
  rintro e w2 ⟨A2, cap, tk, dp, rfl, hb2⟩
  have hbw := Lib.hid (((Only.refl (fun _ => False) w).alloc _).trans (Only.ofBelow (F := fun _ => False) hb2) fun _ _ h => h)
  clear hb2
  have BE : Blk (w2.alloc (.cells #[.slice A2 0 cap, .int .i64 3, .int .i64 4, .int .i64 0, .int .i64 3, .int .i64 tk, .int .i64 dp] 44)) w2.heap.size 44 #[.slice A2 0 cap, .int .i64 3, .int .i64 4, .int .i64 0, .int .i64 3, .int .i64 tk, .int .i64 dp] := blk_at rfl
  have hbx := Lib.hid (hbw.out.alloc (.cells #[.slice A2 0 cap, .int .i64 3, .int .i64 4, .int .i64 0, .int .i64 3, .int .i64 tk, .int .i64 dp] 44))
  clear hbw
  go_wp2_with fail
  generalize World.alloc _ _ = w3 at *
  refine (HD.out w3).mono ?_
  rintro e w4 ⟨rfl, hb4⟩
  rw [hio]
  go_wp2_with fail
  refine (alive_c w4).mono ?_
  rintro e w5 ⟨rfl, hb5⟩
  have O35 := (Only.ofBelow (F := fun _ => False) hb4).trans (Only.ofBelow (F := fun _ => False) hb5) fun _ _ h => h
  have BE5 := BE.only O35 (fun h => h)
  have y0 := BE5.cell 0
  have y1 := BE5.cell 1
  have y2 := BE5.cell 2
  have y3 := BE5.cell 3
  have y4 := BE5.cell 4
  simp only [List.getElem?_toArray, List.getElem?_cons_zero, List.getElem?_cons_succ] at y0 y1 y2 y3 y4
  have FIN := Lib.hid ((hbx.out.trans O35 fun _ _ h => h).toBelow (Nat.le_refl _) fun _ _ h => h)
  clear BE BE5 O35 hb4 hb5 hbx HI HD
  go_wp2_with fail
  go_ret
  exact ⟨rfl, FIN.out⟩
set_option maxRecDepth 100000 in
set_option maxHeartbeats 8000000 in
theorem words_11 (w : World) (op a b to : Int) (ha : i64in a) (hb : i64in b) (ho : bits .and .i64 op 15 = 11) (t : Nat) (ht : bits .and .i64 to 15 = (t : Int)) (htt : t < 16)  : Calls Try.prog 6 #[.int .i64 op, .int .i64 a, .int .i64 b, .int .i64 to] w fun e w' => e = .returned (.bool true) ∧ Below w.heap.size w w' := by
  obtain ⟨r1, r2, r3⟩ := words_did 14 a b 4 t (wdo 13 a b) (by simp [act, W2_a, W2_b])
  have hk : madeN (wordsK 14 a b 4 t) (9 : Int).toNat (newQ (wordsK 14 a b 4 t) []) ≤ 9 := madeN_le _ _ _
  have HI := Lib.hid (fun (w1 : World) (b1 : Nat) (cs : Array Value) (hB : Blk w1 b1 54 cs) (hcs : cs.toList = manyC insL (insOf (wordsL5 14 a b 4 t)) 5) => one_two (one_c w1 (fun x => x < w1.heap.size) (fun _ h => h) (some ⟨b1, 0, none⟩) 5 5 (insOf (wordsL5 14 a b 4 t)) 2 ⟨by decide, by decide⟩ (IL_blk hB hcs (words_in 14 a b 4 t ⟨by decide, by decide⟩ ha hb ⟨by decide, by decide⟩ ⟨by omega, by omega⟩) (by decide) hB.lt) (by decide) (fun h => by cases h) (by decide) (words_code 14 a b 4 t (by omega) (by omega) (by omega)) 2 0 (by decide) (by decide) (by decide) (by decide) 9 (by decide) (by decide) (by show ((madeN (wordsK 14 a b 4 t) (9 : Int).toNat (newQ (wordsK 14 a b 4 t) []) : Nat) : Int) < _; omega)) r1 r2 r3)
  have HD := Lib.hid (do_c 13 a b)
  have hio : isOp 13 = true := rfl
  clear r1 r2 r3 hk  ha hb
  go_enter Try.func6, Try.ntmps6
  go_wp2_with fail
  refine (HI.out _ _ _ (blk_at rfl) (by kernel_rfl)).mono ?_
  rintro e w2 ⟨eb, cap, k2, v2, tk, dp, rfl, v0, v1, hb2⟩
  have hbw := Lib.hid (((Only.refl (fun _ => False) w).alloc _).trans (Only.ofBelow (F := fun _ => False) hb2) fun _ _ h => h)
  clear hb2
  have BE : Blk (w2.alloc (.cells #[.slice (some ⟨eb, 0, none⟩) 1 cap, .int .i64 1, .int .i64 k2, .int .i64 v2, .int .i64 5, .int .i64 tk, .int .i64 dp] 44)) w2.heap.size 44 #[.slice (some ⟨eb, 0, none⟩) 1 cap, .int .i64 1, .int .i64 k2, .int .i64 v2, .int .i64 5, .int .i64 tk, .int .i64 dp] := blk_at rfl
  have v0' := (World.cell?_alloc_past (w := w2) (.cells #[.slice (some ⟨eb, 0, none⟩) 1 cap, .int .i64 1, .int .i64 k2, .int .i64 v2, .int .i64 5, .int .i64 tk, .int .i64 dp] 44) eb 0 (World.block_lt_of_cell? w2 _ v0)).trans v0
  have v1' := (World.cell?_alloc_past (w := w2) (.cells #[.slice (some ⟨eb, 0, none⟩) 1 cap, .int .i64 1, .int .i64 k2, .int .i64 v2, .int .i64 5, .int .i64 tk, .int .i64 dp] 44) eb 1 (World.block_lt_of_cell? w2 _ v1)).trans v1
  have hbx := Lib.hid (hbw.out.alloc (.cells #[.slice (some ⟨eb, 0, none⟩) 1 cap, .int .i64 1, .int .i64 k2, .int .i64 v2, .int .i64 5, .int .i64 tk, .int .i64 dp] 44))
  clear hbw
  go_wp2_with fail
  generalize World.alloc _ _ = w3 at *
  refine (HD.out w3).mono ?_
  rintro e w4 ⟨rfl, hb4⟩
  rw [hio]
  go_wp2_with fail
  refine (alive_c w4).mono ?_
  rintro e w5 ⟨rfl, hb5⟩
  have O35 := (Only.ofBelow (F := fun _ => False) hb4).trans (Only.ofBelow (F := fun _ => False) hb5) fun _ _ h => h
  have BE5 := BE.only O35 (fun h => h)
  have y0 := BE5.cell 0
  have y1 := BE5.cell 1
  have y2 := BE5.cell 2
  have y3 := BE5.cell 3
  have y4 := BE5.cell 4
  simp only [List.getElem?_toArray, List.getElem?_cons_zero, List.getElem?_cons_succ] at y0 y1 y2 y3 y4
  have u0 := (O35.cell (b := eb) (o := 0) (World.block_lt_of_cell? w3 _ v0') (fun h => h)).trans v0'
  have u1 := (O35.cell (b := eb) (o := 1) (World.block_lt_of_cell? w3 _ v1') (fun h => h)).trans v1'
  clear v0 v1 v0' v1'
  have FIN := Lib.hid ((hbx.out.trans O35 fun _ _ h => h).toBelow (Nat.le_refl _) fun _ _ h => h)
  clear BE BE5 O35 hb4 hb5 hbx HI HD
  go_wp2_with fail
  go_ret
  exact ⟨rfl, FIN.out⟩
set_option maxRecDepth 100000 in
set_option maxHeartbeats 8000000 in
theorem words_12 (w : World) (op a b to : Int) (ha : i64in a) (hb : i64in b) (ho : bits .and .i64 op 15 = 12) (t : Nat) (ht : bits .and .i64 to 15 = (t : Int)) (htt : t < 16)  : Calls Try.prog 6 #[.int .i64 op, .int .i64 a, .int .i64 b, .int .i64 to] w fun e w' => e = .returned (.bool true) ∧ Below w.heap.size w w' := by
  obtain ⟨r1, r2, r3⟩ := words_did 15 a b 4 t (wdo 14 a b) (by simp [act, W2_a, W2_b])
  have hk : madeN (wordsK 15 a b 4 t) (9 : Int).toNat (newQ (wordsK 15 a b 4 t) []) ≤ 9 := madeN_le _ _ _
  have HI := Lib.hid (fun (w1 : World) (b1 : Nat) (cs : Array Value) (hB : Blk w1 b1 54 cs) (hcs : cs.toList = manyC insL (insOf (wordsL5 15 a b 4 t)) 5) => one_two (one_c w1 (fun x => x < w1.heap.size) (fun _ h => h) (some ⟨b1, 0, none⟩) 5 5 (insOf (wordsL5 15 a b 4 t)) 2 ⟨by decide, by decide⟩ (IL_blk hB hcs (words_in 15 a b 4 t ⟨by decide, by decide⟩ ha hb ⟨by decide, by decide⟩ ⟨by omega, by omega⟩) (by decide) hB.lt) (by decide) (fun h => by cases h) (by decide) (words_code 15 a b 4 t (by omega) (by omega) (by omega)) 2 0 (by decide) (by decide) (by decide) (by decide) 9 (by decide) (by decide) (by show ((madeN (wordsK 15 a b 4 t) (9 : Int).toNat (newQ (wordsK 15 a b 4 t) []) : Nat) : Int) < _; omega)) r1 r2 r3)
  have HD := Lib.hid (do_c 14 a b)
  have hio : isOp 14 = true := rfl
  clear r1 r2 r3 hk  ha hb
  go_enter Try.func6, Try.ntmps6
  go_wp2_with fail
  refine (HI.out _ _ _ (blk_at rfl) (by kernel_rfl)).mono ?_
  rintro e w2 ⟨eb, cap, k2, v2, tk, dp, rfl, v0, v1, hb2⟩
  have hbw := Lib.hid (((Only.refl (fun _ => False) w).alloc _).trans (Only.ofBelow (F := fun _ => False) hb2) fun _ _ h => h)
  clear hb2
  have BE : Blk (w2.alloc (.cells #[.slice (some ⟨eb, 0, none⟩) 1 cap, .int .i64 1, .int .i64 k2, .int .i64 v2, .int .i64 5, .int .i64 tk, .int .i64 dp] 44)) w2.heap.size 44 #[.slice (some ⟨eb, 0, none⟩) 1 cap, .int .i64 1, .int .i64 k2, .int .i64 v2, .int .i64 5, .int .i64 tk, .int .i64 dp] := blk_at rfl
  have v0' := (World.cell?_alloc_past (w := w2) (.cells #[.slice (some ⟨eb, 0, none⟩) 1 cap, .int .i64 1, .int .i64 k2, .int .i64 v2, .int .i64 5, .int .i64 tk, .int .i64 dp] 44) eb 0 (World.block_lt_of_cell? w2 _ v0)).trans v0
  have v1' := (World.cell?_alloc_past (w := w2) (.cells #[.slice (some ⟨eb, 0, none⟩) 1 cap, .int .i64 1, .int .i64 k2, .int .i64 v2, .int .i64 5, .int .i64 tk, .int .i64 dp] 44) eb 1 (World.block_lt_of_cell? w2 _ v1)).trans v1
  have hbx := Lib.hid (hbw.out.alloc (.cells #[.slice (some ⟨eb, 0, none⟩) 1 cap, .int .i64 1, .int .i64 k2, .int .i64 v2, .int .i64 5, .int .i64 tk, .int .i64 dp] 44))
  clear hbw
  go_wp2_with fail
  generalize World.alloc _ _ = w3 at *
  refine (HD.out w3).mono ?_
  rintro e w4 ⟨rfl, hb4⟩
  rw [hio]
  go_wp2_with fail
  refine (alive_c w4).mono ?_
  rintro e w5 ⟨rfl, hb5⟩
  have O35 := (Only.ofBelow (F := fun _ => False) hb4).trans (Only.ofBelow (F := fun _ => False) hb5) fun _ _ h => h
  have BE5 := BE.only O35 (fun h => h)
  have y0 := BE5.cell 0
  have y1 := BE5.cell 1
  have y2 := BE5.cell 2
  have y3 := BE5.cell 3
  have y4 := BE5.cell 4
  simp only [List.getElem?_toArray, List.getElem?_cons_zero, List.getElem?_cons_succ] at y0 y1 y2 y3 y4
  have u0 := (O35.cell (b := eb) (o := 0) (World.block_lt_of_cell? w3 _ v0') (fun h => h)).trans v0'
  have u1 := (O35.cell (b := eb) (o := 1) (World.block_lt_of_cell? w3 _ v1') (fun h => h)).trans v1'
  clear v0 v1 v0' v1'
  have FIN := Lib.hid ((hbx.out.trans O35 fun _ _ h => h).toBelow (Nat.le_refl _) fun _ _ h => h)
  clear BE BE5 O35 hb4 hb5 hbx HI HD
  go_wp2_with fail
  go_ret
  exact ⟨rfl, FIN.out⟩
set_option maxRecDepth 100000 in
set_option maxHeartbeats 8000000 in
theorem words_13 (w : World) (op a b to : Int) (ha : i64in a) (hb : i64in b) (ho : bits .and .i64 op 15 = 13) (t : Nat) (ht : bits .and .i64 to 15 = (t : Int)) (htt : t < 16)  : Calls Try.prog 6 #[.int .i64 op, .int .i64 a, .int .i64 b, .int .i64 to] w fun e w' => e = .returned (.bool true) ∧ Below w.heap.size w w' := by
  obtain ⟨r1, r2, r3⟩ := words_did 16 a b 4 t (wdo 15 a b) (by simp [act, W2_a, W2_b])
  have hk : madeN (wordsK 16 a b 4 t) (9 : Int).toNat (newQ (wordsK 16 a b 4 t) []) ≤ 9 := madeN_le _ _ _
  have HI := Lib.hid (fun (w1 : World) (b1 : Nat) (cs : Array Value) (hB : Blk w1 b1 54 cs) (hcs : cs.toList = manyC insL (insOf (wordsL5 16 a b 4 t)) 5) => one_two (one_c w1 (fun x => x < w1.heap.size) (fun _ h => h) (some ⟨b1, 0, none⟩) 5 5 (insOf (wordsL5 16 a b 4 t)) 2 ⟨by decide, by decide⟩ (IL_blk hB hcs (words_in 16 a b 4 t ⟨by decide, by decide⟩ ha hb ⟨by decide, by decide⟩ ⟨by omega, by omega⟩) (by decide) hB.lt) (by decide) (fun h => by cases h) (by decide) (words_code 16 a b 4 t (by omega) (by omega) (by omega)) 2 0 (by decide) (by decide) (by decide) (by decide) 9 (by decide) (by decide) (by show ((madeN (wordsK 16 a b 4 t) (9 : Int).toNat (newQ (wordsK 16 a b 4 t) []) : Nat) : Int) < _; omega)) r1 r2 r3)
  have HD := Lib.hid (do_c 15 a b)
  have hio : isOp 15 = true := rfl
  clear r1 r2 r3 hk  ha hb
  go_enter Try.func6, Try.ntmps6
  go_wp2_with fail
  refine (HI.out _ _ _ (blk_at rfl) (by kernel_rfl)).mono ?_
  rintro e w2 ⟨eb, cap, k2, v2, tk, dp, rfl, v0, v1, hb2⟩
  have hbw := Lib.hid (((Only.refl (fun _ => False) w).alloc _).trans (Only.ofBelow (F := fun _ => False) hb2) fun _ _ h => h)
  clear hb2
  have BE : Blk (w2.alloc (.cells #[.slice (some ⟨eb, 0, none⟩) 1 cap, .int .i64 1, .int .i64 k2, .int .i64 v2, .int .i64 5, .int .i64 tk, .int .i64 dp] 44)) w2.heap.size 44 #[.slice (some ⟨eb, 0, none⟩) 1 cap, .int .i64 1, .int .i64 k2, .int .i64 v2, .int .i64 5, .int .i64 tk, .int .i64 dp] := blk_at rfl
  have v0' := (World.cell?_alloc_past (w := w2) (.cells #[.slice (some ⟨eb, 0, none⟩) 1 cap, .int .i64 1, .int .i64 k2, .int .i64 v2, .int .i64 5, .int .i64 tk, .int .i64 dp] 44) eb 0 (World.block_lt_of_cell? w2 _ v0)).trans v0
  have v1' := (World.cell?_alloc_past (w := w2) (.cells #[.slice (some ⟨eb, 0, none⟩) 1 cap, .int .i64 1, .int .i64 k2, .int .i64 v2, .int .i64 5, .int .i64 tk, .int .i64 dp] 44) eb 1 (World.block_lt_of_cell? w2 _ v1)).trans v1
  have hbx := Lib.hid (hbw.out.alloc (.cells #[.slice (some ⟨eb, 0, none⟩) 1 cap, .int .i64 1, .int .i64 k2, .int .i64 v2, .int .i64 5, .int .i64 tk, .int .i64 dp] 44))
  clear hbw
  go_wp2_with fail
  generalize World.alloc _ _ = w3 at *
  refine (HD.out w3).mono ?_
  rintro e w4 ⟨rfl, hb4⟩
  rw [hio]
  go_wp2_with fail
  refine (alive_c w4).mono ?_
  rintro e w5 ⟨rfl, hb5⟩
  have O35 := (Only.ofBelow (F := fun _ => False) hb4).trans (Only.ofBelow (F := fun _ => False) hb5) fun _ _ h => h
  have BE5 := BE.only O35 (fun h => h)
  have y0 := BE5.cell 0
  have y1 := BE5.cell 1
  have y2 := BE5.cell 2
  have y3 := BE5.cell 3
  have y4 := BE5.cell 4
  simp only [List.getElem?_toArray, List.getElem?_cons_zero, List.getElem?_cons_succ] at y0 y1 y2 y3 y4
  have u0 := (O35.cell (b := eb) (o := 0) (World.block_lt_of_cell? w3 _ v0') (fun h => h)).trans v0'
  have u1 := (O35.cell (b := eb) (o := 1) (World.block_lt_of_cell? w3 _ v1') (fun h => h)).trans v1'
  clear v0 v1 v0' v1'
  have FIN := Lib.hid ((hbx.out.trans O35 fun _ _ h => h).toBelow (Nat.le_refl _) fun _ _ h => h)
  clear BE BE5 O35 hb4 hb5 hbx HI HD
  go_wp2_with fail
  go_ret
  exact ⟨rfl, FIN.out⟩
set_option maxRecDepth 100000 in
set_option maxHeartbeats 8000000 in
theorem words_14 (w : World) (op a b to : Int) (ha : i64in a) (hb : i64in b) (ho : bits .and .i64 op 15 = 14) (t : Nat) (ht : bits .and .i64 to 15 = (t : Int)) (htt : t < 16)  : Calls Try.prog 6 #[.int .i64 op, .int .i64 a, .int .i64 b, .int .i64 to] w fun e w' => e = .returned (.bool true) ∧ Below w.heap.size w w' := by
  obtain ⟨r1, r2, r3⟩ := words_did 17 a b 4 t (wdo 16 a b) (by simp [act, W2_a, W2_b])
  have hk : madeN (wordsK 17 a b 4 t) (9 : Int).toNat (newQ (wordsK 17 a b 4 t) []) ≤ 9 := madeN_le _ _ _
  have HI := Lib.hid (fun (w1 : World) (b1 : Nat) (cs : Array Value) (hB : Blk w1 b1 54 cs) (hcs : cs.toList = manyC insL (insOf (wordsL5 17 a b 4 t)) 5) => one_two (one_c w1 (fun x => x < w1.heap.size) (fun _ h => h) (some ⟨b1, 0, none⟩) 5 5 (insOf (wordsL5 17 a b 4 t)) 2 ⟨by decide, by decide⟩ (IL_blk hB hcs (words_in 17 a b 4 t ⟨by decide, by decide⟩ ha hb ⟨by decide, by decide⟩ ⟨by omega, by omega⟩) (by decide) hB.lt) (by decide) (fun h => by cases h) (by decide) (words_code 17 a b 4 t (by omega) (by omega) (by omega)) 2 0 (by decide) (by decide) (by decide) (by decide) 9 (by decide) (by decide) (by show ((madeN (wordsK 17 a b 4 t) (9 : Int).toNat (newQ (wordsK 17 a b 4 t) []) : Nat) : Int) < _; omega)) r1 r2 r3)
  have HD := Lib.hid (do_c 16 a b)
  have hio : isOp 16 = true := rfl
  clear r1 r2 r3 hk  ha hb
  go_enter Try.func6, Try.ntmps6
  go_wp2_with fail
  refine (HI.out _ _ _ (blk_at rfl) (by kernel_rfl)).mono ?_
  rintro e w2 ⟨eb, cap, k2, v2, tk, dp, rfl, v0, v1, hb2⟩
  have hbw := Lib.hid (((Only.refl (fun _ => False) w).alloc _).trans (Only.ofBelow (F := fun _ => False) hb2) fun _ _ h => h)
  clear hb2
  have BE : Blk (w2.alloc (.cells #[.slice (some ⟨eb, 0, none⟩) 1 cap, .int .i64 1, .int .i64 k2, .int .i64 v2, .int .i64 5, .int .i64 tk, .int .i64 dp] 44)) w2.heap.size 44 #[.slice (some ⟨eb, 0, none⟩) 1 cap, .int .i64 1, .int .i64 k2, .int .i64 v2, .int .i64 5, .int .i64 tk, .int .i64 dp] := blk_at rfl
  have v0' := (World.cell?_alloc_past (w := w2) (.cells #[.slice (some ⟨eb, 0, none⟩) 1 cap, .int .i64 1, .int .i64 k2, .int .i64 v2, .int .i64 5, .int .i64 tk, .int .i64 dp] 44) eb 0 (World.block_lt_of_cell? w2 _ v0)).trans v0
  have v1' := (World.cell?_alloc_past (w := w2) (.cells #[.slice (some ⟨eb, 0, none⟩) 1 cap, .int .i64 1, .int .i64 k2, .int .i64 v2, .int .i64 5, .int .i64 tk, .int .i64 dp] 44) eb 1 (World.block_lt_of_cell? w2 _ v1)).trans v1
  have hbx := Lib.hid (hbw.out.alloc (.cells #[.slice (some ⟨eb, 0, none⟩) 1 cap, .int .i64 1, .int .i64 k2, .int .i64 v2, .int .i64 5, .int .i64 tk, .int .i64 dp] 44))
  clear hbw
  go_wp2_with fail
  generalize World.alloc _ _ = w3 at *
  refine (HD.out w3).mono ?_
  rintro e w4 ⟨rfl, hb4⟩
  rw [hio]
  go_wp2_with fail
  refine (alive_c w4).mono ?_
  rintro e w5 ⟨rfl, hb5⟩
  have O35 := (Only.ofBelow (F := fun _ => False) hb4).trans (Only.ofBelow (F := fun _ => False) hb5) fun _ _ h => h
  have BE5 := BE.only O35 (fun h => h)
  have y0 := BE5.cell 0
  have y1 := BE5.cell 1
  have y2 := BE5.cell 2
  have y3 := BE5.cell 3
  have y4 := BE5.cell 4
  simp only [List.getElem?_toArray, List.getElem?_cons_zero, List.getElem?_cons_succ] at y0 y1 y2 y3 y4
  have u0 := (O35.cell (b := eb) (o := 0) (World.block_lt_of_cell? w3 _ v0') (fun h => h)).trans v0'
  have u1 := (O35.cell (b := eb) (o := 1) (World.block_lt_of_cell? w3 _ v1') (fun h => h)).trans v1'
  clear v0 v1 v0' v1'
  have FIN := Lib.hid ((hbx.out.trans O35 fun _ _ h => h).toBelow (Nat.le_refl _) fun _ _ h => h)
  clear BE BE5 O35 hb4 hb5 hbx HI HD
  go_wp2_with fail
  go_ret
  exact ⟨rfl, FIN.out⟩
set_option maxRecDepth 100000 in
set_option maxHeartbeats 8000000 in
theorem words_15_0 (w : World) (op a b to : Int) (ha : i64in a) (hb : i64in b) (ho : bits .and .i64 op 15 = 15) (t : Nat) (ht : bits .and .i64 to 15 = (t : Int)) (htt : t < 16) (hs : a = 0) : Calls Try.prog 6 #[.int .i64 op, .int .i64 a, .int .i64 b, .int .i64 to] w fun e w' => e = .returned (.bool true) ∧ Below w.heap.size w w' := by
  subst hs
  have hv : (1 : Int) - 0 = wdo 19 0 b := by kernel_rfl
  obtain ⟨r1, r2, r3⟩ := words_did 20 0 b 0 t (wdo 19 0 b) (by rw [← hv]; unfold act; simp only []; rw [W2_a]; simp)
  have hk : madeN (wordsK 20 0 b 0 t) (9 : Int).toNat (newQ (wordsK 20 0 b 0 t) []) ≤ 9 := madeN_le _ _ _
  have HI := Lib.hid (fun (w1 : World) (b1 : Nat) (cs : Array Value) (hB : Blk w1 b1 54 cs) (hcs : cs.toList = manyC insL (insOf (wordsL5 20 0 b 0 t)) 5) => one_two (one_c w1 (fun x => x < w1.heap.size) (fun _ h => h) (some ⟨b1, 0, none⟩) 5 5 (insOf (wordsL5 20 0 b 0 t)) 2 ⟨by decide, by decide⟩ (IL_blk hB hcs (words_in 20 0 b 0 t ⟨by decide, by decide⟩ ha hb ⟨by decide, by decide⟩ ⟨by omega, by omega⟩) (by decide) hB.lt) (by decide) (fun h => by cases h) (by decide) (words_code 20 0 b 0 t (by omega) (by omega) (by omega)) 2 0 (by decide) (by decide) (by decide) (by decide) 9 (by decide) (by decide) (by show ((madeN (wordsK 20 0 b 0 t) (9 : Int).toNat (newQ (wordsK 20 0 b 0 t) []) : Nat) : Int) < _; omega)) r1 r2 r3)
  have HD := Lib.hid (do_c 19 0 b)
  have hio : isOp 19 = true := rfl
  clear r1 r2 r3 hk  ha hb
  go_enter Try.func6, Try.ntmps6
  go_wp2_with fail
  refine (HI.out _ _ _ (blk_at rfl) (by kernel_rfl)).mono ?_
  rintro e w2 ⟨eb, cap, k2, v2, tk, dp, rfl, v0, v1, hb2⟩
  have hbw := Lib.hid (((Only.refl (fun _ => False) w).alloc _).trans (Only.ofBelow (F := fun _ => False) hb2) fun _ _ h => h)
  clear hb2
  have BE : Blk (w2.alloc (.cells #[.slice (some ⟨eb, 0, none⟩) 1 cap, .int .i64 1, .int .i64 k2, .int .i64 v2, .int .i64 5, .int .i64 tk, .int .i64 dp] 44)) w2.heap.size 44 #[.slice (some ⟨eb, 0, none⟩) 1 cap, .int .i64 1, .int .i64 k2, .int .i64 v2, .int .i64 5, .int .i64 tk, .int .i64 dp] := blk_at rfl
  have v0' := (World.cell?_alloc_past (w := w2) (.cells #[.slice (some ⟨eb, 0, none⟩) 1 cap, .int .i64 1, .int .i64 k2, .int .i64 v2, .int .i64 5, .int .i64 tk, .int .i64 dp] 44) eb 0 (World.block_lt_of_cell? w2 _ v0)).trans v0
  have v1' := (World.cell?_alloc_past (w := w2) (.cells #[.slice (some ⟨eb, 0, none⟩) 1 cap, .int .i64 1, .int .i64 k2, .int .i64 v2, .int .i64 5, .int .i64 tk, .int .i64 dp] 44) eb 1 (World.block_lt_of_cell? w2 _ v1)).trans v1
  have hbx := Lib.hid (hbw.out.alloc (.cells #[.slice (some ⟨eb, 0, none⟩) 1 cap, .int .i64 1, .int .i64 k2, .int .i64 v2, .int .i64 5, .int .i64 tk, .int .i64 dp] 44))
  clear hbw
  go_wp2_with fail
  generalize World.alloc _ _ = w3 at *
  refine (HD.out w3).mono ?_
  rintro e w4 ⟨rfl, hb4⟩
  rw [hio]
  go_wp2_with fail
  refine (alive_c w4).mono ?_
  rintro e w5 ⟨rfl, hb5⟩
  have O35 := (Only.ofBelow (F := fun _ => False) hb4).trans (Only.ofBelow (F := fun _ => False) hb5) fun _ _ h => h
  have BE5 := BE.only O35 (fun h => h)
  have y0 := BE5.cell 0
  have y1 := BE5.cell 1
  have y2 := BE5.cell 2
  have y3 := BE5.cell 3
  have y4 := BE5.cell 4
  simp only [List.getElem?_toArray, List.getElem?_cons_zero, List.getElem?_cons_succ] at y0 y1 y2 y3 y4
  have u0 := (O35.cell (b := eb) (o := 0) (World.block_lt_of_cell? w3 _ v0') (fun h => h)).trans v0'
  have u1 := (O35.cell (b := eb) (o := 1) (World.block_lt_of_cell? w3 _ v1') (fun h => h)).trans v1'
  clear v0 v1 v0' v1'
  have FIN := Lib.hid ((hbx.out.trans O35 fun _ _ h => h).toBelow (Nat.le_refl _) fun _ _ h => h)
  clear BE BE5 O35 hb4 hb5 hbx HI HD
  go_wp2_with fail
  go_ret
  exact ⟨rfl, FIN.out⟩
set_option maxRecDepth 100000 in
set_option maxHeartbeats 8000000 in
theorem words_15_1 (w : World) (op a b to : Int) (ha : i64in a) (hb : i64in b) (ho : bits .and .i64 op 15 = 15) (t : Nat) (ht : bits .and .i64 to 15 = (t : Int)) (htt : t < 16) (hs : a = 1) : Calls Try.prog 6 #[.int .i64 op, .int .i64 a, .int .i64 b, .int .i64 to] w fun e w' => e = .returned (.bool true) ∧ Below w.heap.size w w' := by
  subst hs
  have hv : (1 : Int) - 1 = wdo 19 1 b := by kernel_rfl
  obtain ⟨r1, r2, r3⟩ := words_did 20 1 b 0 t (wdo 19 1 b) (by rw [← hv]; unfold act; simp only []; rw [W2_a]; simp)
  have hk : madeN (wordsK 20 1 b 0 t) (9 : Int).toNat (newQ (wordsK 20 1 b 0 t) []) ≤ 9 := madeN_le _ _ _
  have HI := Lib.hid (fun (w1 : World) (b1 : Nat) (cs : Array Value) (hB : Blk w1 b1 54 cs) (hcs : cs.toList = manyC insL (insOf (wordsL5 20 1 b 0 t)) 5) => one_two (one_c w1 (fun x => x < w1.heap.size) (fun _ h => h) (some ⟨b1, 0, none⟩) 5 5 (insOf (wordsL5 20 1 b 0 t)) 2 ⟨by decide, by decide⟩ (IL_blk hB hcs (words_in 20 1 b 0 t ⟨by decide, by decide⟩ ha hb ⟨by decide, by decide⟩ ⟨by omega, by omega⟩) (by decide) hB.lt) (by decide) (fun h => by cases h) (by decide) (words_code 20 1 b 0 t (by omega) (by omega) (by omega)) 2 0 (by decide) (by decide) (by decide) (by decide) 9 (by decide) (by decide) (by show ((madeN (wordsK 20 1 b 0 t) (9 : Int).toNat (newQ (wordsK 20 1 b 0 t) []) : Nat) : Int) < _; omega)) r1 r2 r3)
  have HD := Lib.hid (do_c 19 1 b)
  have hio : isOp 19 = true := rfl
  clear r1 r2 r3 hk  ha hb
  go_enter Try.func6, Try.ntmps6
  go_wp2_with fail
  refine (HI.out _ _ _ (blk_at rfl) (by kernel_rfl)).mono ?_
  rintro e w2 ⟨eb, cap, k2, v2, tk, dp, rfl, v0, v1, hb2⟩
  have hbw := Lib.hid (((Only.refl (fun _ => False) w).alloc _).trans (Only.ofBelow (F := fun _ => False) hb2) fun _ _ h => h)
  clear hb2
  have BE : Blk (w2.alloc (.cells #[.slice (some ⟨eb, 0, none⟩) 1 cap, .int .i64 1, .int .i64 k2, .int .i64 v2, .int .i64 5, .int .i64 tk, .int .i64 dp] 44)) w2.heap.size 44 #[.slice (some ⟨eb, 0, none⟩) 1 cap, .int .i64 1, .int .i64 k2, .int .i64 v2, .int .i64 5, .int .i64 tk, .int .i64 dp] := blk_at rfl
  have v0' := (World.cell?_alloc_past (w := w2) (.cells #[.slice (some ⟨eb, 0, none⟩) 1 cap, .int .i64 1, .int .i64 k2, .int .i64 v2, .int .i64 5, .int .i64 tk, .int .i64 dp] 44) eb 0 (World.block_lt_of_cell? w2 _ v0)).trans v0
  have v1' := (World.cell?_alloc_past (w := w2) (.cells #[.slice (some ⟨eb, 0, none⟩) 1 cap, .int .i64 1, .int .i64 k2, .int .i64 v2, .int .i64 5, .int .i64 tk, .int .i64 dp] 44) eb 1 (World.block_lt_of_cell? w2 _ v1)).trans v1
  have hbx := Lib.hid (hbw.out.alloc (.cells #[.slice (some ⟨eb, 0, none⟩) 1 cap, .int .i64 1, .int .i64 k2, .int .i64 v2, .int .i64 5, .int .i64 tk, .int .i64 dp] 44))
  clear hbw
  go_wp2_with fail
  generalize World.alloc _ _ = w3 at *
  refine (HD.out w3).mono ?_
  rintro e w4 ⟨rfl, hb4⟩
  rw [hio]
  go_wp2_with fail
  refine (alive_c w4).mono ?_
  rintro e w5 ⟨rfl, hb5⟩
  have O35 := (Only.ofBelow (F := fun _ => False) hb4).trans (Only.ofBelow (F := fun _ => False) hb5) fun _ _ h => h
  have BE5 := BE.only O35 (fun h => h)
  have y0 := BE5.cell 0
  have y1 := BE5.cell 1
  have y2 := BE5.cell 2
  have y3 := BE5.cell 3
  have y4 := BE5.cell 4
  simp only [List.getElem?_toArray, List.getElem?_cons_zero, List.getElem?_cons_succ] at y0 y1 y2 y3 y4
  have u0 := (O35.cell (b := eb) (o := 0) (World.block_lt_of_cell? w3 _ v0') (fun h => h)).trans v0'
  have u1 := (O35.cell (b := eb) (o := 1) (World.block_lt_of_cell? w3 _ v1') (fun h => h)).trans v1'
  clear v0 v1 v0' v1'
  have FIN := Lib.hid ((hbx.out.trans O35 fun _ _ h => h).toBelow (Nat.le_refl _) fun _ _ h => h)
  clear BE BE5 O35 hb4 hb5 hbx HI HD
  go_wp2_with fail
  go_ret
  exact ⟨rfl, FIN.out⟩
set_option maxRecDepth 100000 in
set_option maxHeartbeats 8000000 in
theorem words_15_stuck (w : World) (op a b to : Int) (ha : i64in a) (hb : i64in b) (ho : bits .and .i64 op 15 = 15) (t : Nat) (ht : bits .and .i64 to 15 = (t : Int)) (htt : t < 16) (hs : ¬ (a = 0 ∨ a = 1)) : Calls Try.prog 6 #[.int .i64 op, .int .i64 a, .int .i64 b, .int .i64 to] w fun e w' => e = .returned (.bool true) ∧ Below w.heap.size w w' := by
  have hs1 : (a != 0) = true := bne_iff_ne.2 fun e => hs (.inl e)
  have hs2 : (a != 1) = true := bne_iff_ne.2 fun e => hs (.inr e)
  have hrun := words_stuck 20 a b 0 t 5 (by unfold act; simp only []; rw [W2_a]; simp [hs])
  have r1 : (runN (wordsK 20 a b 0 t) 9 (newQ (wordsK 20 a b 0 t) [])).fin = 3 := by rw [hrun]; rfl
  have r2 : (runN (wordsK 20 a b 0 t) 9 (newQ (wordsK 20 a b 0 t) [])).steps = 3 := by rw [hrun]; rfl
  have r3 : (runN (wordsK 20 a b 0 t) 9 (newQ (wordsK 20 a b 0 t) [])).ev = [] := by rw [hrun]; rfl
  have r4 : (runN (wordsK 20 a b 0 t) 9 (newQ (wordsK 20 a b 0 t) [])).kind = 5 := by rw [hrun]; rfl
  have r5 : (runN (wordsK 20 a b 0 t) 9 (newQ (wordsK 20 a b 0 t) [])).val = 0 := by rw [hrun]; rfl
  have hk : madeN (wordsK 20 a b 0 t) (9 : Int).toNat (newQ (wordsK 20 a b 0 t) []) ≤ 9 := madeN_le _ _ _
  have HI := Lib.hid (fun (w1 : World) (b1 : Nat) (cs : Array Value) (hB : Blk w1 b1 54 cs) (hcs : cs.toList = manyC insL (insOf (wordsL5 20 a b 0 t)) 5) => one_none (one_c w1 (fun x => x < w1.heap.size) (fun _ h => h) (some ⟨b1, 0, none⟩) 5 5 (insOf (wordsL5 20 a b 0 t)) 2 ⟨by decide, by decide⟩ (IL_blk hB hcs (words_in 20 a b 0 t ⟨by decide, by decide⟩ ha hb ⟨by decide, by decide⟩ ⟨by omega, by omega⟩) (by decide) hB.lt) (by decide) (fun h => by cases h) (by decide) (words_code 20 a b 0 t (by omega) (by omega) (by omega)) 2 0 (by decide) (by decide) (by decide) (by decide) 9 (by decide) (by decide) (by show ((madeN (wordsK 20 a b 0 t) (9 : Int).toNat (newQ (wordsK 20 a b 0 t) []) : Nat) : Int) < _; omega)) r1 r2 r3 r4 r5)
  have HD := Lib.hid (do_c 19 a b)
  have hio : isOp 19 = true := rfl
  clear r1 r2 r3 hk r4 r5 hrun ha hb
  go_enter Try.func6, Try.ntmps6
  go_wp2_with fail
  refine (HI.out _ _ _ (blk_at rfl) (by kernel_rfl)).mono ?_
  rintro e w2 ⟨A2, cap, tk, dp, rfl, hb2⟩
  have hbw := Lib.hid (((Only.refl (fun _ => False) w).alloc _).trans (Only.ofBelow (F := fun _ => False) hb2) fun _ _ h => h)
  clear hb2
  have BE : Blk (w2.alloc (.cells #[.slice A2 0 cap, .int .i64 3, .int .i64 5, .int .i64 0, .int .i64 3, .int .i64 tk, .int .i64 dp] 44)) w2.heap.size 44 #[.slice A2 0 cap, .int .i64 3, .int .i64 5, .int .i64 0, .int .i64 3, .int .i64 tk, .int .i64 dp] := blk_at rfl
  have hbx := Lib.hid (hbw.out.alloc (.cells #[.slice A2 0 cap, .int .i64 3, .int .i64 5, .int .i64 0, .int .i64 3, .int .i64 tk, .int .i64 dp] 44))
  clear hbw
  go_wp2_with fail
  generalize World.alloc _ _ = w3 at *
  refine (HD.out w3).mono ?_
  rintro e w4 ⟨rfl, hb4⟩
  rw [hio]
  go_wp2_with fail
  refine (alive_c w4).mono ?_
  rintro e w5 ⟨rfl, hb5⟩
  have O35 := (Only.ofBelow (F := fun _ => False) hb4).trans (Only.ofBelow (F := fun _ => False) hb5) fun _ _ h => h
  have BE5 := BE.only O35 (fun h => h)
  have y0 := BE5.cell 0
  have y1 := BE5.cell 1
  have y2 := BE5.cell 2
  have y3 := BE5.cell 3
  have y4 := BE5.cell 4
  simp only [List.getElem?_toArray, List.getElem?_cons_zero, List.getElem?_cons_succ] at y0 y1 y2 y3 y4
  have FIN := Lib.hid ((hbx.out.trans O35 fun _ _ h => h).toBelow (Nat.le_refl _) fun _ _ h => h)
  clear BE BE5 O35 hb4 hb5 hbx HI HD
  go_wp2_with fail
  go_ret
  exact ⟨rfl, FIN.out⟩
end Go.Proofs.Ytkjfbojmkkdgoaa
