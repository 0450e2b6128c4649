/- r16's machine: the simple methods. -/
import Derived.Test.YtkjfbojmkkdgoaaX3
import Derived.RegionTactic
import Derived.BigRegion
import Derived.Deep.RegionHeld3
set_option linter.unusedVariables false
set_option linter.unusedSimpArgs false
namespace Go.Proofs.Ytkjfbojmkkdgoaa
open Go.RowKit
attribute [local go_sem ↓] Go.wp_at_zero Go.wp_at_succ
theorem stop_c (a b v : Int) (w : World) : Calls Try.prog 100 #[.int .i64 a, .int .i64 b, .int .i64 v] w fun e w' => e = .panicked [{ v := endV a b v, recovered := false }] ∧ w' = w := by
  go_enter Try.func100, Try.ntmps100
  go_wp2
  exact ⟨rfl, rfl, rfl⟩
set_option maxRecDepth 100000 in
set_option maxHeartbeats 8000000 in
theorem mldi_c (w : World) (C : Nat → Prop) (g : Nat) (K : MK) (q : MQ) (c : Nat) (h : MAt w C g K q c) (op : Int) (a b d : Nat) (n : Int) (ha : a < 16) : Calls Try.prog 52 #[.pointer (some ⟨g, 0, none⟩), insR op a b d n] w (Did w C g K (q.reg a n) c) := by
  obtain ⟨z, p, h⟩ := h
  obtain ⟨w1, s, hw, hs, M, O, i0, i1, i2, i3, i4⟩ := h.boxed op a b d n
  have hl := M.lt
  have zz := M.frozen
  have ka := M.kr a ha
  have la : (a : Int) < 16 := by omega
  have MH := Lib.hid (M.sreg a ha n)
  have OH := Lib.hid (O.cells (p := ⟨g, 45 + a, none⟩) M.cg (.int .i64 n))
  clear h M O
  unfold insR
  go_enter Try.func52, Try.ntmps52
  go_wp2_with fail
  rw [← hw, ← hs]
  clear hw hs
  go_region
  all_goals (go_wp2_with fail; go_end0)
  all_goals exact ⟨rfl, ⟨z, p, MH.out.drew⟩, OH.out.drew⟩
set_option maxRecDepth 100000 in
set_option maxHeartbeats 8000000 in
theorem mmov_c (w : World) (C : Nat → Prop) (g : Nat) (K : MK) (q : MQ) (c : Nat) (h : MAt w C g K q c) (op : Int) (a b d : Nat) (n : Int) (ha : a < 16) (hb : b < 16) : Calls Try.prog 53 #[.pointer (some ⟨g, 0, none⟩), insR op a b d n] w (Did w C g K (q.reg a (q.regs b)) c) := by
  obtain ⟨z, p, h⟩ := h
  obtain ⟨w1, s, hw, hs, M, O, i0, i1, i2, i3, i4⟩ := h.boxed op a b d n
  have hl := M.lt
  have zz := M.frozen
  have ka := M.kr a ha
  have la : (a : Int) < 16 := by omega
  have kb := M.kr b hb
  have lb : (b : Int) < 16 := by omega
  have MH := Lib.hid (M.sreg a ha (q.regs (b : Int)))
  have OH := Lib.hid (O.cells (p := ⟨g, 45 + a, none⟩) M.cg (.int .i64 (q.regs (b : Int))))
  generalize q.regs (b : Int) = vb at *
  clear h M O
  unfold insR
  go_enter Try.func53, Try.ntmps53
  go_wp2_with fail
  rw [← hw, ← hs]
  clear hw hs
  go_region
  all_goals (go_wp2_with fail; go_end0)
  all_goals exact ⟨rfl, ⟨z, p, MH.out.drew⟩, OH.out.drew⟩
set_option maxRecDepth 100000 in
set_option maxHeartbeats 8000000 in
theorem mjmp_c (w : World) (C : Nat → Prop) (g : Nat) (K : MK) (q : MQ) (c : Nat) (h : MAt w C g K q c) (op : Int) (a b d : Nat) (n : Int) : Calls Try.prog 58 #[.pointer (some ⟨g, 0, none⟩), insR op a b d n] w (Did w C g K { q with at_ := n } c) := by
  obtain ⟨z, p, h⟩ := h
  obtain ⟨w1, s, hw, hs, M, O, i0, i1, i2, i3, i4⟩ := h.boxed op a b d n
  have hl := M.lt
  have zz := M.frozen
  have k7 := M.k64
  have MH := Lib.hid (M.put 64 (.int .i64 n) { q with at_ := n } (fun f hf => hf.sAt n) rfl rfl rfl rfl rfl)
  have OH := Lib.hid (O.cells (p := ⟨g, 64, none⟩) M.cg (.int .i64 n))
  clear h M O
  unfold insR
  go_enter Try.func58, Try.ntmps58
  have hw2 := hw.symm
  have hs2 := hs.symm
  subst hw hs
  go_wp2_with fail
  go_end0
  exact ⟨rfl, ⟨z, p, MH.out⟩, OH.out⟩
set_option maxRecDepth 100000 in
set_option maxHeartbeats 8000000 in
theorem mbz_c (w : World) (C : Nat → Prop) (g : Nat) (K : MK) (q : MQ) (c : Nat) (h : MAt w C g K q c) (op : Int) (a b d : Nat) (n : Int) (ha : a < 16) : Calls Try.prog 59 #[.pointer (some ⟨g, 0, none⟩), insR op a b d n] w (Did w C g K (if (q.regs a == 0) = true then { q with at_ := n } else q) c) := by
  obtain ⟨z, p, h⟩ := h
  obtain ⟨w1, s, hw, hs, M, O, i0, i1, i2, i3, i4⟩ := h.boxed op a b d n
  have hl := M.lt
  have zz := M.frozen
  have ka := M.kr a ha
  have la : (a : Int) < 16 := by omega
  have k7 := M.k64
  have MH := Lib.hid (M.put 64 (.int .i64 n) { q with at_ := n } (fun f hf => hf.sAt n) rfl rfl rfl rfl rfl)
  have OH := Lib.hid (O.cells (p := ⟨g, 64, none⟩) M.cg (.int .i64 n))
  have MN := Lib.hid M
  have ON := Lib.hid O
  cases hc : (q.regs a == 0) with
  | true =>
    rw [if_pos rfl]
    clear h M O
    generalize q.regs (a : Int) = va at *
    unfold insR
    go_enter Try.func59, Try.ntmps59
    go_wp2_with fail
    rw [← hw, ← hs]
    clear hw hs
    go_quiet (fail)
    go_wp2_with fail
    go_end0
    exact ⟨rfl, ⟨z, p, (MN.out.drewN _).put 64 (.int .i64 n) { q with at_ := n } (fun f hf => hf.sAt n) rfl rfl rfl rfl rfl⟩, (ON.out.drewN _).cells (p := ⟨g, 64, none⟩) MN.out.cg (.int .i64 n)⟩
  | false =>
    rw [if_neg (by simp)]
    clear h M O
    generalize q.regs (a : Int) = va at *
    unfold insR
    go_enter Try.func59, Try.ntmps59
    go_wp2_with fail
    rw [← hw, ← hs]
    clear hw hs
    go_quiet (fail)
    go_wp2_with fail
    go_end0
    exact ⟨rfl, ⟨z, p, MN.out.drewN _⟩, ON.out.drewN _⟩
set_option maxRecDepth 100000 in
set_option maxHeartbeats 8000000 in
theorem mbnz_c (w : World) (C : Nat → Prop) (g : Nat) (K : MK) (q : MQ) (c : Nat) (h : MAt w C g K q c) (op : Int) (a b d : Nat) (n : Int) (ha : a < 16) : Calls Try.prog 60 #[.pointer (some ⟨g, 0, none⟩), insR op a b d n] w (Did w C g K (if (q.regs a != 0) = true then { q with at_ := n } else q) c) := by
  obtain ⟨z, p, h⟩ := h
  obtain ⟨w1, s, hw, hs, M, O, i0, i1, i2, i3, i4⟩ := h.boxed op a b d n
  have hl := M.lt
  have zz := M.frozen
  have ka := M.kr a ha
  have la : (a : Int) < 16 := by omega
  have k7 := M.k64
  have MH := Lib.hid (M.put 64 (.int .i64 n) { q with at_ := n } (fun f hf => hf.sAt n) rfl rfl rfl rfl rfl)
  have OH := Lib.hid (O.cells (p := ⟨g, 64, none⟩) M.cg (.int .i64 n))
  have MN := Lib.hid M
  have ON := Lib.hid O
  cases hc : (q.regs a != 0) with
  | true =>
    rw [if_pos rfl]
    clear h M O
    generalize q.regs (a : Int) = va at *
    unfold insR
    go_enter Try.func60, Try.ntmps60
    go_wp2_with fail
    rw [← hw, ← hs]
    clear hw hs
    go_quiet (fail)
    go_wp2_with fail
    go_end0
    exact ⟨rfl, ⟨z, p, (MN.out.drewN _).put 64 (.int .i64 n) { q with at_ := n } (fun f hf => hf.sAt n) rfl rfl rfl rfl rfl⟩, (ON.out.drewN _).cells (p := ⟨g, 64, none⟩) MN.out.cg (.int .i64 n)⟩
  | false =>
    rw [if_neg (by simp)]
    clear h M O
    generalize q.regs (a : Int) = va at *
    unfold insR
    go_enter Try.func60, Try.ntmps60
    go_wp2_with fail
    rw [← hw, ← hs]
    clear hw hs
    go_quiet (fail)
    go_wp2_with fail
    go_end0
    exact ⟨rfl, ⟨z, p, MN.out.drewN _⟩, ON.out.drewN _⟩
end Go.Proofs.Ytkjfbojmkkdgoaa
