/- r16's Run. -/
import Derived.Test.YtkjfbojmkkdgoaaX17
import Derived.Test.YtkjfbojmkkdgoaaA10
set_option linter.unusedVariables false
set_option linter.unusedSimpArgs false
namespace Go.Proofs.Ytkjfbojmkkdgoaa
open Go.RowKit
attribute [local go_sem ↓] Go.wp_at_zero Go.wp_at_succ
theorem madeN_no {K : MK} {q : MQ} (h : goes K q = false) : ∀ n, madeN K n q = 0
  | 0 => rfl
  | n + 1 => by unfold madeN; rw [if_neg (by simp [h])]
theorem madeN_succ {K : MK} (n : Nat) {q : MQ} (h : goes K q = true) : madeN K (n + 1) q = madeN K n (next K q) + 1 := by rw [madeN, if_pos h]
set_option maxRecDepth 100000 in
set_option maxHeartbeats 8000000 in
theorem run_neg (w : World) (g : Nat) (fuel : Int) (hf : fuel < 0) :
    Calls Try.prog 20 #[.pointer (some ⟨g, 0, none⟩), .int .i64 fuel] w fun e w' => e = .returned (.tuple #[.agg #[.slice none 0 0, .int .i64 0, .int .i64 0, .int .i64 0, .int .i64 0, .int .i64 0, .int .i64 0], .int .i64 3]) ∧ Below w.heap.size w w' := by
  have hd : decide (fuel < 0) = true := decide_eq_true hf
  have B1 := Blk.new w 44 #[.slice none 0 0, .int .i64 0, .int .i64 0, .int .i64 0, .int .i64 0, .int .i64 0, .int .i64 0]
  have x0 := B1.cell 0
  have x1 := B1.cell 1
  have x2 := B1.cell 2
  have x3 := B1.cell 3
  have x4 := B1.cell 4
  have x5 := B1.cell 5
  have x6 := B1.cell 6
  have zx := B1.frozen
  have BL := Lib.hid B1
  simp only [List.getElem?_toArray, List.getElem?_cons_zero, List.getElem?_cons_succ] at x0 x1 x2 x3 x4 x5 x6
  clear B1
  go_enter Try.func20, Try.ntmps20
  go_wp2_with fail
  refine bodyPost_ret (results_cell2 rfl (a := ⟨w.heap.size, 0, none⟩) rfl rfl (run_loadVar_row _ w.heap.size 44 44 _ (0, 0) _ BL.out Try.underlying44 rfl (by kernel_rfl))) rfl ?_
  exact ⟨rfl, ((Only.refl (fun _ => False) w).alloc _).toBelow (Nat.le_refl _) fun _ _ h => h⟩
set_option maxRecDepth 100000 in
set_option maxHeartbeats 8000000 in
theorem run_big (w : World) (g : Nat) (fuel : Int) (hf : ¬ fuel < 0) (hf2 : 1099511627776 < fuel) :
    Calls Try.prog 20 #[.pointer (some ⟨g, 0, none⟩), .int .i64 fuel] w fun e w' => e = .returned (.tuple #[.agg #[.slice none 0 0, .int .i64 0, .int .i64 0, .int .i64 0, .int .i64 0, .int .i64 0, .int .i64 0], .int .i64 3]) ∧ Below w.heap.size w w' := by
  have hd : decide (fuel < 0) = false := decide_eq_false hf
  have hd2 : decide (1099511627776 < fuel) = true := decide_eq_true hf2
  have B1 := Blk.new w 44 #[.slice none 0 0, .int .i64 0, .int .i64 0, .int .i64 0, .int .i64 0, .int .i64 0, .int .i64 0]
  have x0 := B1.cell 0
  have x1 := B1.cell 1
  have x2 := B1.cell 2
  have x3 := B1.cell 3
  have x4 := B1.cell 4
  have x5 := B1.cell 5
  have x6 := B1.cell 6
  have zx := B1.frozen
  have BL := Lib.hid B1
  simp only [List.getElem?_toArray, List.getElem?_cons_zero, List.getElem?_cons_succ] at x0 x1 x2 x3 x4 x5 x6
  clear B1
  go_enter Try.func20, Try.ntmps20
  go_wp2_with fail
  refine bodyPost_ret (results_cell2 rfl (a := ⟨w.heap.size, 0, none⟩) rfl rfl (run_loadVar_row _ w.heap.size 44 44 _ (0, 0) _ BL.out Try.underlying44 rfl (by kernel_rfl))) rfl ?_
  exact ⟨rfl, ((Only.refl (fun _ => False) w).alloc _).toBelow (Nat.le_refl _) fun _ _ h => h⟩
set_option maxRecDepth 100000 in
set_option maxHeartbeats 8000000 in
theorem run_c {K : MK} (s : Sound K) (w : World) (C : Nat → Prop) (g : Nat) (q : MQ) (h : MO w C g K q) (hC : ∀ b, w.heap.size ≤ b → C b) (fuel : Int) (hf : ¬ fuel < 0) (hf2 : ¬ 1099511627776 < fuel) (hst : q.steps + (madeN K fuel.toNat q : Int) < 4000000000000) :
    Calls Try.prog 20 #[.pointer (some ⟨g, 0, none⟩), .int .i64 fuel] w fun e w' => ∃ v, e = .returned (.tuple #[outR (runN K fuel.toNat q) v, .int .i64 0]) ∧ Row w' (fun b => w.heap.size ≤ b) 50 2 v (runN K fuel.toNat q).ev.length (evs (runN K fuel.toNat q).ev) ∧ MO w' (fun b => C b ∧ v.ownBlock ≠ some b) g K (runN K fuel.toNat q) ∧ Only C w w' := by
  obtain ⟨qf, hqf⟩ : ∃ qf, qf = runN K fuel.toNat q := ⟨_, rfl⟩
  rw [← hqf]
  have HQ := Lib.hid hqf
  clear hqf
  have hd : decide (fuel < 0) = false := decide_eq_false hf
  have hd2 : decide (1099511627776 < fuel) = false := decide_eq_false hf2
  have B1 := Blk.new w 44 #[.slice none 0 0, .int .i64 0, .int .i64 0, .int .i64 0, .int .i64 0, .int .i64 0, .int .i64 0]
  have H1 : MO (w.alloc (.cells #[.slice none 0 0, .int .i64 0, .int .i64 0, .int .i64 0, .int .i64 0, .int .i64 0, .int .i64 0] 44)) (fun b => C b ∧ b ≠ w.heap.size) g K q := (h.more (D := fun b => C b ∧ b ≠ w.heap.size) fun b hb hc => ⟨hc, by omega⟩).keep ((Only.refl (fun _ => False) w).alloc _) fun _ _ _ h => h
  have O1 : Only C w (w.alloc (.cells #[.slice none 0 0, .int .i64 0, .int .i64 0, .int .i64 0, .int .i64 0, .int .i64 0, .int .i64 0] 44)) := (Only.refl C w).alloc _
  have hlt : w.heap.size < (w.alloc (.cells #[.slice none 0 0, .int .i64 0, .int .i64 0, .int .i64 0, .int .i64 0, .int .i64 0, .int .i64 0] 44)).heap.size := B1.lt
  have HM := Lib.hid H1
  have HO := Lib.hid O1
  have BL := Lib.hid B1
  have HC := Lib.hid (fun b (hb : (w.alloc (.cells #[.slice none 0 0, .int .i64 0, .int .i64 0, .int .i64 0, .int .i64 0, .int .i64 0, .int .i64 0] 44)).heap.size ≤ b) => show C b ∧ b ≠ w.heap.size from ⟨hC b (by omega), by omega⟩)
  have HST := Lib.hid hst
  have S := Lib.hid s
  clear h H1 O1 B1 hC hst s
  go_enter Try.func20, Try.ntmps20
  go_wp2_with fail
  generalize World.alloc _ _ = w1 at *
  generalize hb0 : w.heap.size = b0 at *
  have OC := Lib.hid (fun (wx : World) (hM : MO wx (fun b => C b ∧ b ≠ b0) g K qf) (hO : Only (fun b => C b ∧ b ≠ b0) w1 wx) => show Calls Try.prog 22 #[.pointer (some ⟨g, 0, none⟩)] wx fun e w4 => ∃ A cap, e = .returned (outR qf (.slice A qf.ev.length cap)) ∧ Hid (Row w4 (fun b => wx.heap.size ≤ b) 50 2 (.slice A qf.ev.length cap) qf.ev.length (evs qf.ev) ∧ Blk w4 b0 44 #[.slice none 0 0, .int .i64 0, .int .i64 0, .int .i64 0, .int .i64 0, .int .i64 0, .int .i64 0] ∧ Below wx.heap.size wx w4) from by
    obtain ⟨gd, h0, z, p, hz⟩ := hM
    refine (outcome_c wx _ z g p K qf _ hz (by have := gd.evn; omega)).mono ?_
    rintro e w4 ⟨v, rfl, hr, hb⟩
    obtain ⟨A, cap, rfl, -⟩ := hr.shape
    exact ⟨A, cap, rfl, hr, (BL.out.only hO fun hh => hh.2 rfl).below hb (Nat.lt_of_lt_of_le hlt hO.size), hb⟩)
  have RT := Lib.hid (fun (wx w4 : World) (A : Option Addr) (cap : Nat) (hM : MO wx (fun b => C b ∧ b ≠ b0) g K qf) (hO : Only (fun b => C b ∧ b ≠ b0) w1 wx) (hr : Row w4 (fun b => wx.heap.size ≤ b) 50 2 (.slice A qf.ev.length cap) qf.ev.length (evs qf.ev)) (hB : Blk w4 b0 44 #[.slice none 0 0, .int .i64 0, .int .i64 0, .int .i64 0, .int .i64 0, .int .i64 0, .int .i64 0]) (hb : Below wx.heap.size wx w4) => show Blk (((((((w4.setCell ⟨b0, 0, none⟩ (.slice A qf.ev.length cap)).setCell ⟨b0, 1, none⟩ (.int .i64 qf.fin)).setCell ⟨b0, 2, none⟩ (.int .i64 qf.kind)).setCell ⟨b0, 3, none⟩ (.int .i64 qf.val)).setCell ⟨b0, 4, none⟩ (.int .i64 qf.steps)).setCell ⟨b0, 5, none⟩ (.int .i64 qf.hp.tk)).setCell ⟨b0, 6, none⟩ (.int .i64 qf.depth)) b0 44 #[.slice A qf.ev.length cap, .int .i64 qf.fin, .int .i64 qf.kind, .int .i64 qf.val, .int .i64 qf.steps, .int .i64 qf.hp.tk, .int .i64 qf.depth] ∧ Row (((((((w4.setCell ⟨b0, 0, none⟩ (.slice A qf.ev.length cap)).setCell ⟨b0, 1, none⟩ (.int .i64 qf.fin)).setCell ⟨b0, 2, none⟩ (.int .i64 qf.kind)).setCell ⟨b0, 3, none⟩ (.int .i64 qf.val)).setCell ⟨b0, 4, none⟩ (.int .i64 qf.steps)).setCell ⟨b0, 5, none⟩ (.int .i64 qf.hp.tk)).setCell ⟨b0, 6, none⟩ (.int .i64 qf.depth)) (fun b => b0 ≤ b) 50 2 (.slice A qf.ev.length cap) qf.ev.length (evs qf.ev) ∧ MO (((((((w4.setCell ⟨b0, 0, none⟩ (.slice A qf.ev.length cap)).setCell ⟨b0, 1, none⟩ (.int .i64 qf.fin)).setCell ⟨b0, 2, none⟩ (.int .i64 qf.kind)).setCell ⟨b0, 3, none⟩ (.int .i64 qf.val)).setCell ⟨b0, 4, none⟩ (.int .i64 qf.steps)).setCell ⟨b0, 5, none⟩ (.int .i64 qf.hp.tk)).setCell ⟨b0, 6, none⟩ (.int .i64 qf.depth)) (fun b => C b ∧ (Value.slice A qf.ev.length cap).ownBlock ≠ some b) g K qf ∧ Only C w (((((((w4.setCell ⟨b0, 0, none⟩ (.slice A qf.ev.length cap)).setCell ⟨b0, 1, none⟩ (.int .i64 qf.fin)).setCell ⟨b0, 2, none⟩ (.int .i64 qf.kind)).setCell ⟨b0, 3, none⟩ (.int .i64 qf.val)).setCell ⟨b0, 4, none⟩ (.int .i64 qf.steps)).setCell ⟨b0, 5, none⟩ (.int .i64 qf.hp.tk)).setCell ⟨b0, 6, none⟩ (.int .i64 qf.depth)) from by
    have hbx : b0 < wx.heap.size := Nat.lt_of_lt_of_le hlt hO.size
    have o5 : Only (fun b => b = b0) w4 (((((((w4.setCell ⟨b0, 0, none⟩ (.slice A qf.ev.length cap)).setCell ⟨b0, 1, none⟩ (.int .i64 qf.fin)).setCell ⟨b0, 2, none⟩ (.int .i64 qf.kind)).setCell ⟨b0, 3, none⟩ (.int .i64 qf.val)).setCell ⟨b0, 4, none⟩ (.int .i64 qf.steps)).setCell ⟨b0, 5, none⟩ (.int .i64 qf.hp.tk)).setCell ⟨b0, 6, none⟩ (.int .i64 qf.depth)) := ((((((((Only.refl (fun b => b = b0) w4).cells (p := ⟨b0, 0, none⟩) rfl _).cells (p := ⟨b0, 1, none⟩) rfl _).cells (p := ⟨b0, 2, none⟩) rfl _).cells (p := ⟨b0, 3, none⟩) rfl _).cells (p := ⟨b0, 4, none⟩) rfl _).cells (p := ⟨b0, 5, none⟩) rfl _).cells (p := ⟨b0, 6, none⟩) rfl _)
    have BF := (((((((hB.set_ 0 (.slice A qf.ev.length cap)).set_ 1 (.int .i64 qf.fin)).set_ 2 (.int .i64 qf.kind)).set_ 3 (.int .i64 qf.val)).set_ 4 (.int .i64 qf.steps)).set_ 5 (.int .i64 qf.hp.tk)).set_ 6 (.int .i64 qf.depth))
    simp only [List.setIfInBounds_toArray, List.set_cons_zero, List.set_cons_succ] at BF
    refine ⟨BF, (hr.only o5 fun b h1 h2 => ?_).mono fun b _ h1 => ?_, ?_, ?_⟩
    · have h3 : wx.heap.size ≤ b := hr.2 b h1
      have h4 : b = b0 := h2
      omega
    · have h3 : wx.heap.size ≤ b := h1
      show b0 ≤ b
      omega
    · have m1 := (hM.more (D := fun b => (C b ∧ b ≠ b0) ∧ b < wx.heap.size) fun b h1 h2 => ⟨h2, h1⟩).keep (Only.ofBelow (F := fun _ => False) hb) (fun _ _ _ h => h)
      have m2 := m1.keep o5 fun b _ h1 h2 => h1.1.2 h2
      refine m2.more fun b _ h1 => ⟨h1.1.1, fun h2 => ?_⟩
      have h3 : wx.heap.size ≤ b := hr.2 b h2
      have h4 := h1.2
      omega
    · have o4 : Only C w1 w4 := (hO.mono fun b _ h1 => h1.1).trans (Only.ofBelow (F := C) hb) fun _ _ h => h
      exact (HO.out.then_ o4).trans (G := fun b => b = b0) o5 fun b h1 h2 => by
        have h3 : b = b0 := h2
        omega)
  go_loopg [1] (fuel.toNat) (fun gk fv wx => ∃ (f2 : Int) (q2 : MQ), fv = .int .i64 f2 ∧ 0 ≤ f2 ∧ f2 ≤ 1099511627776 ∧ gk = f2.toNat ∧ Hid (MO wx (fun b => C b ∧ b ≠ b0) g K q2 ∧ runN K gk q2 = qf ∧ q2.steps + (madeN K gk q2 : Int) < 4000000000000) ∧ Hid (Only (fun b => C b ∧ b ≠ b0) w1 wx))
  case atStart => exact ⟨fuel, q, rfl, by omega, by omega, rfl, ⟨HM.out, HQ.out.symm, HST.out⟩, Only.refl _ _⟩
  case round =>
    obtain ⟨f2, q2, rfl, f0, f1, hgk, H, O⟩ := hrel
    by_cases hz : f2 = 0
    · have e0 : gk = 0 := by omega
      have e1 : q2 = qf := by have := H.out.2.1; rw [e0] at this; exact this
      have M2 := Lib.hid (e1 ▸ H.out.1 : MO wr (fun b => C b ∧ b ≠ b0) g K qf)
      subst hz
      go_wp2_with (go_at_call 22; refine (OC.out _ M2.out O.out).mono ?_; rintro e w4 ⟨A, cap, rfl, H4⟩; have y0 := H4.out.2.1.cell 0; have y1 := H4.out.2.1.cell 1; have y2 := H4.out.2.1.cell 2; have y3 := H4.out.2.1.cell 3; have y4 := H4.out.2.1.cell 4; have y5 := H4.out.2.1.cell 5; have y6 := H4.out.2.1.cell 6; have zy := H4.out.2.1.frozen; simp only [List.getElem?_toArray, List.getElem?_cons_zero, List.getElem?_cons_succ] at y0 y1 y2 y3 y4 y5 y6; unfold outR)
      refine bodyPost_ret (results_cell2 rfl (a := ⟨b0, 0, none⟩) rfl rfl (run_loadVar_row _ b0 44 44 _ (0, 0) _ (RT.out _ _ _ _ M2.out O.out H4.out.1 H4.out.2.1 H4.out.2.2).1 Try.underlying44 rfl (by kernel_rfl))) rfl ?_
      exact ⟨.slice A qf.ev.length cap, rfl, by rw [hb0]; exact (RT.out _ _ _ _ M2.out O.out H4.out.1 H4.out.2.1 H4.out.2.2).2⟩
    · have hpos : decide (0 < f2) = true := decide_eq_true (by omega)
      obtain ⟨m, hm⟩ : ∃ m, gk = m + 1 := ⟨gk - 1, by omega⟩
      have SC := Lib.hid (step_c S.out wr (fun b => C b ∧ b ≠ b0) g q2 H.out.1 (fun b hb => HC.out b (Nat.le_trans O.out.size hb)) (by have := H.out.2.2; omega))
      cases hg : goes K q2 with
      | false =>
        rw [hg] at SC
        have e1 : q2 = qf := by have := H.out.2.1; rw [runN_rest K _ hg] at this; exact this
        have M2 := Lib.hid (fun (w3 : World) (h3 : MO w3 (fun b => C b ∧ b ≠ b0) g K (stepTo K q2)) => show MO w3 (fun b => C b ∧ b ≠ b0) g K qf from by
          unfold stepTo at h3
          rw [if_neg (by simp [hg]), e1] at h3
          exact h3)
        go_wp2_with (first | (go_at_call 21; refine SC.out.mono ?_; rintro e w3 ⟨rfl, h3⟩; have H3 := Lib.hid h3; clear h3) | (go_at_call 22; refine (OC.out _ (M2.out _ H3.out.1) (O.out.then_ H3.out.2)).mono ?_; rintro e w4 ⟨A, cap, rfl, H4⟩; have y0 := H4.out.2.1.cell 0; have y1 := H4.out.2.1.cell 1; have y2 := H4.out.2.1.cell 2; have y3 := H4.out.2.1.cell 3; have y4 := H4.out.2.1.cell 4; have y5 := H4.out.2.1.cell 5; have y6 := H4.out.2.1.cell 6; have zy := H4.out.2.1.frozen; simp only [List.getElem?_toArray, List.getElem?_cons_zero, List.getElem?_cons_succ] at y0 y1 y2 y3 y4 y5 y6; unfold outR))
        refine bodyPost_ret (results_cell2 rfl (a := ⟨b0, 0, none⟩) rfl rfl (run_loadVar_row _ b0 44 44 _ (0, 0) _ (RT.out _ _ _ _ (M2.out _ H3.out.1) (O.out.then_ H3.out.2) H4.out.1 H4.out.2.1 H4.out.2.2).1 Try.underlying44 rfl (by kernel_rfl))) rfl ?_
        exact ⟨.slice A qf.ev.length cap, rfl, by rw [hb0]; exact (RT.out _ _ _ _ (M2.out _ H3.out.1) (O.out.then_ H3.out.2) H4.out.1 H4.out.2.1 H4.out.2.2).2⟩
      | true =>
        rw [hg] at SC
        go_wp2_with (go_at_call 21; refine SC.out.mono ?_; rintro e w3 ⟨rfl, h3⟩; have H3 := Lib.hid h3; clear h3)
        go_roundg m
        case rel =>
          refine ⟨f2 - 1, next K q2, rfl, by omega, by omega, by omega, ⟨?_, ?_, ?_⟩, O.out.then_ H3.out.2⟩
          · have := H3.out.1
            unfold stepTo at this
            rwa [if_pos hg] at this
          · have := H.out.2.1
            rwa [hm, runN_succ K _ _ hg] at this
          · have := H.out.2.2
            rw [hm, madeN_succ _ hg] at this
            rw [next_steps]
            omega
        case measure => omega
end Go.Proofs.Ytkjfbojmkkdgoaa
