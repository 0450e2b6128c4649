/- r16's statements: alive. -/
import Derived.Test.YtkjfbojmkkdgoaaL2
set_option linter.unusedVariables false
set_option linter.unusedSimpArgs false
namespace Go.Proofs.Ytkjfbojmkkdgoaa
open Go.RowKit
attribute [local go_sem ↓] Go.wp_at_zero Go.wp_at_succ
set_option maxRecDepth 100000 in
set_option maxHeartbeats 8000000 in
theorem alive_c (w : World) : Calls Try.prog 12 #[] w fun e w' => e = .returned (.bool true) ∧ Below w.heap.size w w' := by
  go_enter Try.func12, Try.ntmps12
  go_wp2_with fail
  refine (sample_c w).mono ?_
  rintro e w1 ⟨b, f, rfl, hI, hF, hb⟩
  have hI := Lib.hid hI
  have hF := Lib.hid hF
  have HB := Lib.hid hb
  clear hb
  go_wp2_with fail
  have o3 : Only (fun _ => False) w1 ((w1.alloc (.cells #[.slice (some ⟨b, 0, none⟩) 8 8, .slice (some ⟨f, 0, none⟩) 1 1, .int .i64 0] 25)).alloc (.cells #[.int .i64 7] 3)) := ((Only.refl (fun _ => False) w1).alloc _).alloc _
  have BT : Blk ((w1.alloc (.cells #[.slice (some ⟨b, 0, none⟩) 8 8, .slice (some ⟨f, 0, none⟩) 1 1, .int .i64 0] 25)).alloc (.cells #[.int .i64 7] 3)) w1.heap.size 25 #[.slice (some ⟨b, 0, none⟩) 8 8, .slice (some ⟨f, 0, none⟩) 1 1, .int .i64 0] := (blk_at rfl).alloc _
  have BN : Blk ((w1.alloc (.cells #[.slice (some ⟨b, 0, none⟩) 8 8, .slice (some ⟨f, 0, none⟩) 1 1, .int .i64 0] 25)).alloc (.cells #[.int .i64 7] 3)) (w1.heap.size + 1) 3 #[.int .i64 7] := blk_at (by simp)
  have h3s := Lib.hid (show w1.heap.size < ((w1.alloc (.cells #[.slice (some ⟨b, 0, none⟩) 8 8, .slice (some ⟨f, 0, none⟩) 1 1, .int .i64 0] 25)).alloc (.cells #[.int .i64 7] 3)).heap.size by simp; omega)
  generalize World.alloc (World.alloc _ _) _ = w3 at *
  have I3 := hI.out.tr (G' := fun x => x < w1.heap.size) o3 fun x _ h => ⟨fun h => h, h.2⟩
  have F3 := hF.out.tr (G' := fun x => x < w1.heap.size) o3 fun x _ h => ⟨fun h => h, h.2⟩
  have N3 : NL w3 (fun x => x < w3.heap.size) (some ⟨w1.heap.size + 1, 0, none⟩) [7] := ⟨by decide, fun i hi => by
    obtain rfl : i = 0 := by have h2 : i < 1 := hi; omega
    exact ⟨_, _, rfl, BN.lt, BN.lt, BN.cell 0⟩⟩
  have hle : w1.heap.size ≤ w3.heap.size := o3.size
  refine (new_ok w3 (fun x => x < w3.heap.size) (fun _ h => h) _ 8 8 (insOf sampleL) _ 1 1 (mainF 3 8) 0 (I3.tr (Only.refl (fun _ => False) w3) fun x hx _ => ⟨fun h => h, hx⟩) (by decide) (F3.tr (Only.refl (fun _ => False) w3) fun x hx _ => ⟨fun h => h, hx⟩) in_0 (by decide) _ [7] 1 N3 3 0 sample_ok (by decide) (by decide) (by decide) (by decide) (by decide) (fun h => by cases h) (fun h => by cases h) (fun h => by cases h) (fun x hx => by rw [List.mem_singleton.1 hx]; exact ⟨by decide, by decide⟩) (by decide)).mono ?_
  rintro e w4 ⟨g, rfl, hM, hb4⟩
  have SK : Sound (sampleK 0 3 0) := ⟨sample_ok, by decide, fun k hk => (sample_in k hk).n, by decide, by decide, by decide, by decide⟩
  have RC := Lib.hid (run_c SK w4 (fun x => w3.heap.size ≤ x) g (newQ (sampleK 0 3 0) [7]) hM (fun x hx => Nat.le_trans hb4.size hx) 100 (by decide) (by decide) (by rw [newQ_steps]; have := madeN_le (sampleK 0 3 0) (100 : Int).toNat (newQ (sampleK 0 3 0) [7]); have h100 : (100 : Int).toNat = 100 := rfl; omega))
  have B4 := Lib.hid (BT.below hb4 (by have := BT.lt; omega))
  have hb4 := Lib.hid hb4
  have I3 := Lib.hid I3
  have F3 := Lib.hid F3
  have o3 := Lib.hid o3
  clear hM BT BN N3 hI hF
  go_wp2_with (go_at_call 18; refine (num_c _ _).mono ?_; rintro e w9 ⟨rfl, hw9⟩; subst hw9)
  refine RC.out.mono ?_
  rintro e w5 ⟨v, rfl, hR, -, hO5⟩
  obtain ⟨r1, r2, r3⟩ := sample_run
  have h100 : (100 : Int).toNat = 100 := rfl
  rw [h100] at hR ⊢
  generalize runN (sampleK 0 3 0) 100 (newQ (sampleK 0 3 0) [7]) = qf at *
  rw [r3] at hR
  obtain ⟨eb, cap, rfl, he0, he1, he2⟩ := hR.form (by decide)
  have v0 := hR.cell (i := 0) (u := .int .i64 1) rfl
  have v1 := hR.cell (i := 1) (u := .int .i64 14) rfl
  have hout : ∀ v, outR qf v = .agg #[v, .int .i64 1, .int .i64 qf.kind, .int .i64 qf.val, .int .i64 8, .int .i64 qf.hp.tk, .int .i64 qf.depth] := fun v => by unfold outR; rw [r1, r2]
  rw [hout, show ([((1 : Int), (14 : Int))] : List (Int × Int)).length = 1 from rfl]
  have hsz45 := hO5.size
  have hsz34 := hb4.out.size
  have O35 : Only (fun x => w3.heap.size ≤ x) w3 w5 := (Only.ofBelow (F := fun x => w3.heap.size ≤ x) hb4.out).trans hO5 fun _ _ h => h
  have I5 := Lib.hid (I3.out.tr (G' := fun x => x < w1.heap.size) O35 fun x hx h => ⟨fun e => by have e1 : w3.heap.size ≤ x := e; omega, h⟩)
  have F5 := Lib.hid (F3.out.tr (G' := fun x => x < w1.heap.size) O35 fun x hx h => ⟨fun e => by have e1 : w3.heap.size ≤ x := e; omega, h⟩)
  have hbt : w1.heap.size < w3.heap.size := by
    rcases Nat.lt_or_ge w1.heap.size w3.heap.size with h | h
    · exact h
    · have := h3s.out; omega
  have B5 := B4.out.only hO5 (fun e => by have e1 : w3.heap.size ≤ w1.heap.size := e; omega)
  have x0 := B5.cell 0
  have x1 := B5.cell 1
  have x2 := B5.cell 2
  have zt := B5.frozen
  simp only [List.getElem?_toArray, List.getElem?_cons_zero, List.getElem?_cons_succ] at x0 x1 x2
  have hb5 := B5.lt
  have B5 := Lib.hid B5
  have O5 := Lib.hid ((o3.out.mono (F := fun _ => False) (G := fun x => w1.heap.size ≤ x) fun _ _ h => h.elim).trans (G := fun x => w3.heap.size ≤ x) O35 fun x _ h => by have e1 : w3.heap.size ≤ x := h; show w1.heap.size ≤ x; omega)
  clear O35 hO5 hR hout r1 r2 r3
  go_wp2_with (go_at_call 18; refine (num_c _ _).mono ?_; rintro e w9 ⟨rfl, hw9⟩; subst hw9)
  have O6 := (Only.refl (fun _ => False) w5).alloc (.cells #[.slice (some ⟨eb, 0, none⟩) 1 cap, .int .i64 1, .int .i64 qf.kind, .int .i64 qf.val, .int .i64 8, .int .i64 qf.hp.tk, .int .i64 qf.depth] 44)
  have BE : Blk (w5.alloc (.cells #[.slice (some ⟨eb, 0, none⟩) 1 cap, .int .i64 1, .int .i64 qf.kind, .int .i64 qf.val, .int .i64 8, .int .i64 qf.hp.tk, .int .i64 qf.depth] 44)) w5.heap.size 44 #[.slice (some ⟨eb, 0, none⟩) 1 cap, .int .i64 1, .int .i64 qf.kind, .int .i64 qf.val, .int .i64 8, .int .i64 qf.hp.tk, .int .i64 qf.depth] := blk_at rfl
  have B6 := B5.out.alloc (.cells #[.slice (some ⟨eb, 0, none⟩) 1 cap, .int .i64 1, .int .i64 qf.kind, .int .i64 qf.val, .int .i64 8, .int .i64 qf.hp.tk, .int .i64 qf.depth] 44)
  have v0' := (World.cell?_alloc_past (w := w5) (.cells #[.slice (some ⟨eb, 0, none⟩) 1 cap, .int .i64 1, .int .i64 qf.kind, .int .i64 qf.val, .int .i64 8, .int .i64 qf.hp.tk, .int .i64 qf.depth] 44) eb 0 he1).trans v0
  have v1' := (World.cell?_alloc_past (w := w5) (.cells #[.slice (some ⟨eb, 0, none⟩) 1 cap, .int .i64 1, .int .i64 qf.kind, .int .i64 qf.val, .int .i64 8, .int .i64 qf.hp.tk, .int .i64 qf.depth] 44) eb 1 he1).trans v1
  have hs56 : (w5.alloc (.cells #[.slice (some ⟨eb, 0, none⟩) 1 cap, .int .i64 1, .int .i64 qf.kind, .int .i64 qf.val, .int .i64 8, .int .i64 qf.hp.tk, .int .i64 qf.depth] 44)).heap.size = w5.heap.size + 1 := by simp
  generalize World.alloc _ _ = w6 at *
  have I6 := I5.out.tr (G' := fun x => x < w1.heap.size) O6 fun x _ h => ⟨fun h => h, h⟩
  have F6 := F5.out.tr (G' := fun x => x < w1.heap.size) O6 fun x _ h => ⟨fun h => h, h⟩
  have h16 : w1.heap.size ≤ w6.heap.size := by omega
  refine (check_c w6 (fun x => x < w1.heap.size) (fun x h => by have h2 : x < w1.heap.size := h; omega) _ 8 8 (insOf sampleL) _ 1 1 (mainF 3 8) 0 I6 (by decide) F6 in_0 (by decide)).mono ?_
  rintro e w7 ⟨r, rfl, hr, hb7⟩
  have hr0 : r = 0 := by
    rcases hr with ⟨h1, h2⟩ | ⟨h1, h2⟩
    · exact h1
    · exact absurd sample_ok h2
  subst hr0
  have O7 := Only.ofBelow (F := fun _ => False) hb7
  have B7 := B6.below hb7 (by omega)
  have BE7 := BE.below hb7 BE.lt
  have u0 := (O7.cell (b := eb) (o := 0) (by omega) (fun h => h)).trans v0'
  have u1 := (O7.cell (b := eb) (o := 1) (by omega) (fun h => h)).trans v1'
  have I7 := I6.tr (G' := fun x => x < w1.heap.size) O7 fun x _ h => ⟨fun h => h, h⟩
  have F7 := F6.tr (G' := fun x => x < w1.heap.size) O7 fun x _ h => ⟨fun h => h, h⟩
  have O8 := (Only.refl (fun x => x = w1.heap.size) w7).cells (p := ⟨w1.heap.size, 2, none⟩) rfl (.int .i64 1)
  have hne : eb ≠ w1.heap.size := by have h2 : w9.heap.size ≤ eb := he0; omega
  have hne2 : w5.heap.size ≠ w1.heap.size := by omega
  have h17 : w1.heap.size ≤ w7.heap.size := by have := hb7.size; omega
  have CC := Lib.hid (check_c (w7.setCell ⟨w1.heap.size, 2, none⟩ (.int .i64 1)) (fun x => x < w1.heap.size) (fun x h => by have h2 : x < w1.heap.size := h; simp [World.setCell]; omega) _ 8 8 (insOf sampleL) _ 1 1 (mainF 3 8) 1 (I7.tr O8 fun x _ h => ⟨fun e => by have e1 : x = w1.heap.size := e; have h2 : x < w1.heap.size := h; omega, h⟩) (by decide) (F7.tr O8 fun x _ h => ⟨fun e => by have e1 : x = w1.heap.size := e; have h2 : x < w1.heap.size := h; omega, h⟩) in_1 (by decide))
  have p0 := B7.cell 0
  have p1 := B7.cell 1
  have p2 := B7.cell 2
  have zt7 := B7.frozen
  simp only [List.getElem?_toArray, List.getElem?_cons_zero, List.getElem?_cons_succ] at p0 p1 p2
  have BE8 := Lib.hid (BE7.far (p := ⟨w1.heap.size, 2, none⟩) hne2 (.int .i64 1))
  have U0 := Lib.hid ((O8.cell (b := eb) (o := 0) (by have := hb7.size; omega) (fun e => hne e)).trans u0)
  have U1 := Lib.hid ((O8.cell (b := eb) (o := 1) (by have := hb7.size; omega) (fun e => hne e)).trans u1)
  have hs7 := hb7.size
  have O68 := Lib.hid ((((O5.out.then_ (O6.mono fun _ _ h => h.elim)).then_ (O7.mono fun _ _ h => h.elim)).trans O8 fun x _ h => by have e1 : x = w1.heap.size := h; show w1.heap.size ≤ x; omega))
  clear hr O7 B6 BE BE7 u0 u1 v0' v1' I7 F7 O8 I6 F6 hb7 B7 O6 x0 x1 x2 zt v0 v1
  go_wp2_with fail
  generalize World.setCell _ _ _ = w8 at *
  refine CC.out.mono ?_
  rintro e w10 ⟨r, rfl, hr, hb10⟩
  have hr0 : r = 210 := by
    rcases hr with ⟨h1, h2⟩ | ⟨h1, h2⟩
    · exact absurd h2 (sample_no 1 (by decide))
    · exact h1
  subst hr0
  have O10 := Only.ofBelow (F := fun _ => False) hb10
  have BE10 := BE8.out.below hb10 BE8.out.lt
  have u0 := (O10.cell (b := eb) (o := 0) (World.block_lt_of_cell? w8 _ U0.out) (fun h => h)).trans U0.out
  have u1 := (O10.cell (b := eb) (o := 1) (World.block_lt_of_cell? w8 _ U1.out) (fun h => h)).trans U1.out
  have y0 := BE10.cell 0
  have y1 := BE10.cell 1
  have y4 := BE10.cell 4
  simp only [List.getElem?_toArray, List.getElem?_cons_zero, List.getElem?_cons_succ] at y0 y1 y4
  have OF := Lib.hid (O68.out.then_ (O10.mono fun _ _ h => h.elim))
  clear hr hb10 O10 BE10 CC
  go_wp2_with (go_at_call 18; refine (num_c _ _).mono ?_; rintro e w9 ⟨rfl, hw9⟩; subst hw9)
  go_ret
  exact ⟨rfl, below_only HB.out OF.out (fun x hx hf => by have h1 := HB.out.size; have h2 : w1.heap.size ≤ x := hf; omega) HB.out.size⟩
end Go.Proofs.Ytkjfbojmkkdgoaa
