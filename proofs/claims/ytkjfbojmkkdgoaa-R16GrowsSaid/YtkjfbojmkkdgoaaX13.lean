/- r16's machine: does it rest? -/
import Derived.Test.YtkjfbojmkkdgoaaX12
set_option linter.unusedVariables false
set_option linter.unusedSimpArgs false
namespace Go.Proofs.Ytkjfbojmkkdgoaa
open Go.RowKit
attribute [local go_sem ↓] Go.wp_at_zero Go.wp_at_succ
set_option maxRecDepth 100000 in
set_option maxHeartbeats 8000000 in
theorem rests_few (w : World) (C : Nat → Prop) (z : Nat → Nat) (g : Nat) (p : MP) (K : MK) (q : MQ) (c : Nat) (h : MZ w C z g p K q c) (at_ : Nat) (hat : q.at_ = at_) (hni : at_ < K.ni) (op : Int) (a b d : Nat) (n : Int) (hi : K.X at_ = ⟨op, a, b, d, n⟩) (ha : a < 16) (hr : i64in (q.regs a)) (hl : (q.ev.length : Int) < 1048576) :
    Calls Try.prog 37 #[.pointer (some ⟨g, 0, none⟩)] w fun e w' => e = .returned (.bool false) ∧ Below w.heap.size w w' := by
  have k0 := h.k0
  have k64 := h.k64
  have k68 := h.k68
  have ka := h.kr a ha
  rw [hat] at k64
  have la : (a : Int) < 16 := by omega
  obtain ⟨ih, bi, off, hA, hb7, hbl, c0, c1, c2, c3, c4⟩ := h.il.2 at_ hni
  rw [hi] at c0 c1 c2 c3 c4 ih
  rw [hA] at k0
  obtain ⟨A, cap, hrow, hcap⟩ := h.ea.shape
  rw [hrow] at k68
  have hai : (0 : Int) ≤ (at_ : Int) := Int.natCast_nonneg _
  have han : (at_ : Int) < (K.ni : Int) := by omega
  have hgl := h.lt
  dsimp only at c0 c1 c2 c3 c4
  clear h ih hb7 hi hat hrow hA
  generalize q.regs (a : Int) = va at *
  generalize q.ev.length = L at *
  have hl2 : decide ((L : Int) < 1048576) = true := decide_eq_true hl
  go_enter Try.func37, Try.ntmps37
  go_wp2_with fail
  go_region
  go_wp2_with fail
  go_ret
  exact ⟨rfl, (((Only.refl (fun _ => False) w).alloc _).drew).toBelow (Nat.le_refl _) (fun _ _ h => h)⟩
set_option maxRecDepth 100000 in
set_option maxHeartbeats 8000000 in
theorem rests_int (w : World) (C : Nat → Prop) (z : Nat → Nat) (g : Nat) (p : MP) (K : MK) (q : MQ) (c : Nat) (h : MZ w C z g p K q c) (at_ : Nat) (hat : q.at_ = at_) (hni : at_ < K.ni) (op : Int) (a b d : Nat) (n : Int) (hi : K.X at_ = ⟨op, a, b, d, n⟩) (ha : a < 16) (hr : i64in (q.regs a)) (hl : ¬ (q.ev.length : Int) < 1048576) (ho : op = 37) :
    Calls Try.prog 37 #[.pointer (some ⟨g, 0, none⟩)] w fun e w' => e = .returned (.bool true) ∧ Below w.heap.size w w' := by
  have k0 := h.k0
  have k64 := h.k64
  have k68 := h.k68
  have ka := h.kr a ha
  rw [hat] at k64
  have la : (a : Int) < 16 := by omega
  obtain ⟨ih, bi, off, hA, hb7, hbl, c0, c1, c2, c3, c4⟩ := h.il.2 at_ hni
  rw [hi] at c0 c1 c2 c3 c4 ih
  rw [hA] at k0
  obtain ⟨A, cap, hrow, hcap⟩ := h.ea.shape
  rw [hrow] at k68
  have hai : (0 : Int) ≤ (at_ : Int) := Int.natCast_nonneg _
  have han : (at_ : Int) < (K.ni : Int) := by omega
  have hgl := h.lt
  dsimp only at c0 c1 c2 c3 c4
  clear h ih hb7 hi hat hrow hA
  generalize q.regs (a : Int) = va at *
  generalize q.ev.length = L at *
  subst ho
  have hl2 : decide ((L : Int) < 1048576) = false := decide_eq_false hl
  go_enter Try.func37, Try.ntmps37
  go_wp2_with fail
  go_region
  go_wp2_with fail
  go_quiet (fail)
  go_wp2_with fail
  go_ret
  exact ⟨rfl, (((Only.refl (fun _ => False) w).alloc _).drew.drewN _).toBelow (Nat.le_refl _) (fun _ _ h => h)⟩
set_option maxRecDepth 100000 in
set_option maxHeartbeats 8000000 in
theorem rests_other (w : World) (C : Nat → Prop) (z : Nat → Nat) (g : Nat) (p : MP) (K : MK) (q : MQ) (c : Nat) (h : MZ w C z g p K q c) (at_ : Nat) (hat : q.at_ = at_) (hni : at_ < K.ni) (op : Int) (a b d : Nat) (n : Int) (hi : K.X at_ = ⟨op, a, b, d, n⟩) (ha : a < 16) (hr : i64in (q.regs a)) (hl : ¬ (q.ev.length : Int) < 1048576) (ho : ¬ op = 37) (ho2 : ¬ op = 38) :
    Calls Try.prog 37 #[.pointer (some ⟨g, 0, none⟩)] w fun e w' => e = .returned (.bool false) ∧ Below w.heap.size w w' := by
  have k0 := h.k0
  have k64 := h.k64
  have k68 := h.k68
  have ka := h.kr a ha
  rw [hat] at k64
  have la : (a : Int) < 16 := by omega
  obtain ⟨ih, bi, off, hA, hb7, hbl, c0, c1, c2, c3, c4⟩ := h.il.2 at_ hni
  rw [hi] at c0 c1 c2 c3 c4 ih
  rw [hA] at k0
  obtain ⟨A, cap, hrow, hcap⟩ := h.ea.shape
  rw [hrow] at k68
  have hai : (0 : Int) ≤ (at_ : Int) := Int.natCast_nonneg _
  have han : (at_ : Int) < (K.ni : Int) := by omega
  have hgl := h.lt
  dsimp only at c0 c1 c2 c3 c4
  clear h ih hb7 hi hat hrow hA
  generalize q.regs (a : Int) = va at *
  generalize q.ev.length = L at *
  have h1 : (op == 37) = false := beq_eq_false_iff_ne.2 ho
  have h2 : (op == 38) = false := beq_eq_false_iff_ne.2 ho2
  have hl2 : decide ((L : Int) < 1048576) = false := decide_eq_false hl
  go_enter Try.func37, Try.ntmps37
  go_wp2_with fail
  go_region
  go_wp2_with fail
  go_quiet (fail)
  go_wp2_with fail
  go_ret
  exact ⟨rfl, (((Only.refl (fun _ => False) w).alloc _).drew.drewN _).toBelow (Nat.le_refl _) (fun _ _ h => h)⟩
set_option maxRecDepth 100000 in
set_option maxHeartbeats 8000000 in
theorem rests_bool (w : World) (C : Nat → Prop) (z : Nat → Nat) (g : Nat) (p : MP) (K : MK) (q : MQ) (c : Nat) (h : MZ w C z g p K q c) (at_ : Nat) (hat : q.at_ = at_) (hni : at_ < K.ni) (op : Int) (a b d : Nat) (n : Int) (hi : K.X at_ = ⟨op, a, b, d, n⟩) (ha : a < 16) (hr : i64in (q.regs a)) (hl : ¬ (q.ev.length : Int) < 1048576) (ho : op = 38) (hv : q.regs a = 0 ∨ q.regs a = 1) :
    Calls Try.prog 37 #[.pointer (some ⟨g, 0, none⟩)] w fun e w' => e = .returned (.bool true) ∧ Below w.heap.size w w' := by
  have k0 := h.k0
  have k64 := h.k64
  have k68 := h.k68
  have ka := h.kr a ha
  rw [hat] at k64
  have la : (a : Int) < 16 := by omega
  obtain ⟨ih, bi, off, hA, hb7, hbl, c0, c1, c2, c3, c4⟩ := h.il.2 at_ hni
  rw [hi] at c0 c1 c2 c3 c4 ih
  rw [hA] at k0
  obtain ⟨A, cap, hrow, hcap⟩ := h.ea.shape
  rw [hrow] at k68
  have hai : (0 : Int) ≤ (at_ : Int) := Int.natCast_nonneg _
  have han : (at_ : Int) < (K.ni : Int) := by omega
  have hgl := h.lt
  dsimp only at c0 c1 c2 c3 c4
  clear h ih hb7 hi hat hrow hA
  generalize q.regs (a : Int) = va at *
  generalize q.ev.length = L at *
  subst ho
  have h3 : decide (IntKind.u64.wrap va ≤ 1) = true := decide_eq_true (by rcases hv with e | e <;> rw [e] <;> decide)
  have h4 : decide (va ≤ 1) = true := decide_eq_true (by rcases hv with e | e <;> rw [e] <;> decide)
  have hl2 : decide ((L : Int) < 1048576) = false := decide_eq_false hl
  go_enter Try.func37, Try.ntmps37
  go_wp2_with fail
  go_region
  go_wp2_with fail
  go_quiet (fail)
  go_wp2_with fail
  go_ret
  exact ⟨rfl, (((Only.refl (fun _ => False) w).alloc _).drew.drewN _).toBelow (Nat.le_refl _) (fun _ _ h => h)⟩
set_option maxRecDepth 100000 in
set_option maxHeartbeats 8000000 in
theorem rests_none (w : World) (C : Nat → Prop) (z : Nat → Nat) (g : Nat) (p : MP) (K : MK) (q : MQ) (c : Nat) (h : MZ w C z g p K q c) (at_ : Nat) (hat : q.at_ = at_) (hni : at_ < K.ni) (op : Int) (a b d : Nat) (n : Int) (hi : K.X at_ = ⟨op, a, b, d, n⟩) (ha : a < 16) (hr : i64in (q.regs a)) (hl : ¬ (q.ev.length : Int) < 1048576) (ho : op = 38) (hv : ¬ (q.regs a = 0 ∨ q.regs a = 1)) :
    Calls Try.prog 37 #[.pointer (some ⟨g, 0, none⟩)] w fun e w' => e = .returned (.bool false) ∧ Below w.heap.size w w' := by
  have k0 := h.k0
  have k64 := h.k64
  have k68 := h.k68
  have ka := h.kr a ha
  rw [hat] at k64
  have la : (a : Int) < 16 := by omega
  obtain ⟨ih, bi, off, hA, hb7, hbl, c0, c1, c2, c3, c4⟩ := h.il.2 at_ hni
  rw [hi] at c0 c1 c2 c3 c4 ih
  rw [hA] at k0
  obtain ⟨A, cap, hrow, hcap⟩ := h.ea.shape
  rw [hrow] at k68
  have hai : (0 : Int) ≤ (at_ : Int) := Int.natCast_nonneg _
  have han : (at_ : Int) < (K.ni : Int) := by omega
  have hgl := h.lt
  dsimp only at c0 c1 c2 c3 c4
  clear h ih hb7 hi hat hrow hA
  generalize q.regs (a : Int) = va at *
  generalize q.ev.length = L at *
  subst ho
  obtain ⟨r1, r2⟩ := hr
  have h3 : decide (IntKind.u64.wrap va ≤ 1) = false := decide_eq_false (by rw [IntKind.wrap_u64]; omega)
  have hl2 : decide ((L : Int) < 1048576) = false := decide_eq_false hl
  go_enter Try.func37, Try.ntmps37
  go_wp2_with fail
  go_region
  go_wp2_with fail
  go_quiet (fail)
  go_wp2_with fail
  go_ret
  exact ⟨rfl, (((Only.refl (fun _ => False) w).alloc _).drew.drewN _).toBelow (Nat.le_refl _) (fun _ _ h => h)⟩
/-- What rests answers. -/
theorem rests_c (w : World) (C : Nat → Prop) (z : Nat → Nat) (g : Nat) (p : MP) (K : MK) (q : MQ) (c : Nat) (h : MZ w C z g p K q c) (h0 : 0 ≤ q.at_) (h1 : q.at_ < K.ni) (ig : 0 ≤ (K.X q.at_.toNat).a ∧ (K.X q.at_.toNat).a < 16 ∧ 0 ≤ (K.X q.at_.toNat).b ∧ 0 ≤ (K.X q.at_.toNat).c) (hr : ∀ j, i64in (q.regs j)) :
    Calls Try.prog 37 #[.pointer (some ⟨g, 0, none⟩)] w fun e w' => e = .returned (.bool (rests K q)) ∧ Below w.heap.size w w' := by
  obtain ⟨at_, hat⟩ := Int.eq_ofNat_of_zero_le h0
  have hn : at_ < K.ni := by omega
  have e1 : q.at_.toNat = at_ := by omega
  rw [e1] at ig
  unfold rests
  rw [e1]
  cases hi : K.X at_ with
  | mk op ia ib ic n =>
  rw [hi] at ig
  dsimp only at ig ⊢
  obtain ⟨a0, a1, b0, c0⟩ := ig
  obtain ⟨a, rfl⟩ := Int.eq_ofNat_of_zero_le a0
  obtain ⟨b, rfl⟩ := Int.eq_ofNat_of_zero_le b0
  obtain ⟨d, rfl⟩ := Int.eq_ofNat_of_zero_le c0
  have ha : a < 16 := by omega
  by_cases hl : (q.ev.length : Int) < 1048576
  · have e : decide (1048576 ≤ q.ev.length) = false := decide_eq_false (by omega)
    rw [e, Bool.false_and]
    exact rests_few w C z g p K q c h at_ hat hn op a b d n hi ha (hr _) hl
  · have e : decide (1048576 ≤ q.ev.length) = true := decide_eq_true (by omega)
    rw [e, Bool.true_and]
    by_cases ho : op = 37
    · rw [show (op == 37) = true from beq_iff_eq.2 ho, Bool.true_or]
      exact rests_int w C z g p K q c h at_ hat hn op a b d n hi ha (hr _) hl ho
    · rw [show (op == 37) = false from beq_eq_false_iff_ne.2 ho, Bool.false_or]
      by_cases ho2 : op = 38
      · rw [show (op == 38) = true from beq_iff_eq.2 ho2, Bool.true_and]
        by_cases hv : q.regs a = 0 ∨ q.regs a = 1
        · rw [show (q.regs (a : Int) == 0 || q.regs (a : Int) == 1) = true by rcases hv with e | e <;> simp [e]]
          exact rests_bool w C z g p K q c h at_ hat hn op a b d n hi ha (hr _) hl ho2 hv
        · rw [show (q.regs (a : Int) == 0 || q.regs (a : Int) == 1) = false by rw [not_or] at hv; simp [hv.1, hv.2]]
          exact rests_none w C z g p K q c h at_ hat hn op a b d n hi ha (hr _) hl ho2 hv
      · rw [show (op == 38) = false from beq_eq_false_iff_ne.2 ho2, Bool.false_and]
        exact rests_other w C z g p K q c h at_ hat hn op a b d n hi ha (hr _) hl ho ho2
end Go.Proofs.Ytkjfbojmkkdgoaa
