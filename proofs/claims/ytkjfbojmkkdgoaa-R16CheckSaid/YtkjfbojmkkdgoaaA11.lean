/- the document's number, instruction: walks. -/
import Derived.Test.YtkjfbojmkkdgoaaA10
set_option linter.unusedVariables false
set_option linter.unusedSimpArgs false
namespace Go.Proofs.Ytkjfbojmkkdgoaa
open Go.RowKit
attribute [local go_sem ↓] Go.wp_at_zero Go.wp_at_succ
theorem opIn_uses (op : Int) : opIn op = (usesOf op).2 := by
  rcases (show op < 1 ∨ 38 < op ∨ (1 ≤ op ∧ op ≤ 38) by omega) with g | g | ⟨g1, g2⟩
  · have hf : ∀ c : Int, 1 ≤ c → (op == c) = false := fun c hc => beq_eq_false_iff_ne.2 (by omega)
    unfold opIn usesOf
    simp only [hf 27 (by omega), hf 1 (by omega), hf 22 (by omega), hf 23 (by omega), hf 24 (by omega), hf 25 (by omega), hf 32 (by omega), hf 33 (by omega), hf 35 (by omega), hf 2 (by omega), hf 18 (by omega), hf 19 (by omega), hf 20 (by omega), hf 28 (by omega), hf 29 (by omega), hf 30 (by omega), hf 31 (by omega), hf 21 (by omega), hf 26 (by omega), hf 34 (by omega), hf 36 (by omega), hf 37 (by omega), hf 38 (by omega), Bool.or_false, Bool.false_eq_true, if_false]
    rw [Bool.eq_iff_iff]
    simp
    omega
  · have hf : ∀ c : Int, c ≤ 38 → (op == c) = false := fun c hc => beq_eq_false_iff_ne.2 (by omega)
    unfold opIn usesOf
    simp only [hf 27 (by omega), hf 1 (by omega), hf 22 (by omega), hf 23 (by omega), hf 24 (by omega), hf 25 (by omega), hf 32 (by omega), hf 33 (by omega), hf 35 (by omega), hf 2 (by omega), hf 18 (by omega), hf 19 (by omega), hf 20 (by omega), hf 28 (by omega), hf 29 (by omega), hf 30 (by omega), hf 31 (by omega), hf 21 (by omega), hf 26 (by omega), hf 34 (by omega), hf 36 (by omega), hf 37 (by omega), hf 38 (by omega), Bool.or_false, Bool.false_eq_true, if_false]
    rw [Bool.eq_iff_iff]
    simp
    omega
  · obtain ⟨k, rfl⟩ := Int.eq_ofNat_of_zero_le (show 0 ≤ op by omega)
    have h : ∀ j : Fin 39, 1 ≤ j.1 → opIn (j.1 : Int) = (usesOf (j.1 : Int)).2 := by decide
    exact h ⟨k, by omega⟩ (by show 1 ≤ k; omega)
def hasF (op : Int) (c : Nat) : Bool := hasCh (fieldsL.getD op.toNat ⟨#[]⟩) c (fieldsL.getD op.toNat ⟨#[]⟩).size
theorem hasF_uses (op : Int) (h : opIn op = true) : hasF op 97 = useBit op 1 ∧ hasF op 98 = useBit op 2 ∧ hasF op 99 = useBit op 4 ∧ hasF op 110 = useBit op 8 := by
  have h' := h
  unfold opIn at h'
  simp at h'
  obtain ⟨k, rfl⟩ := Int.eq_ofNat_of_zero_le (show 0 ≤ op by omega)
  have h : ∀ j : Fin 39, 1 ≤ j.1 → hasF (j.1 : Int) 97 = useBit (j.1 : Int) 1 ∧ hasF (j.1 : Int) 98 = useBit (j.1 : Int) 2 ∧ hasF (j.1 : Int) 99 = useBit (j.1 : Int) 4 ∧ hasF (j.1 : Int) 110 = useBit (j.1 : Int) 8 := by decide
  exact h ⟨k, by omega⟩ (by show 1 ≤ k; omega)
theorem dflags_uses (op : Int) (h : (usesOf op).2 = true) : dflags op = #[.bool (useBit op 1), .bool (useBit op 2), .bool (useBit op 4), .bool (useBit op 8)] := by
  rw [← opIn_uses] at h
  obtain ⟨h1, h2, h3, h4⟩ := hasF_uses op h
  unfold opIn at h
  simp at h
  unfold dflags
  rw [if_neg (by omega), ← h1, ← h2, ← h3, ← h4]
  rfl
theorem useN_op (op : Int) (h : useBit op 8 = true) (h2 : (usesOf op).2 = true) : op = 1 ∨ op = 21 ∨ op = 22 ∨ op = 23 ∨ op = 24 ∨ op = 25 ∨ op = 26 ∨ op = 32 ∨ op = 33 ∨ op = 34 ∨ op = 35 := by
  rw [← opIn_uses] at h2
  unfold opIn at h2
  simp at h2
  obtain ⟨k, rfl⟩ := Int.eq_ofNat_of_zero_le (show 0 ≤ op by omega)
  have hh : ∀ j : Fin 39, useBit (j.1 : Int) 8 = true → j.1 = 1 ∨ j.1 = 21 ∨ j.1 = 22 ∨ j.1 = 23 ∨ j.1 = 24 ∨ j.1 = 25 ∨ j.1 = 26 ∨ j.1 = 32 ∨ j.1 = 33 ∨ j.1 = 34 ∨ j.1 = 35 := by decide
  have := hh ⟨k, by omega⟩ h
  simp only at this
  omega
theorem noN_number (nf : Nat) (f : Fn) (i : Ins) (h : useBit i.op 8 = false) (h2 : (usesOf i.op).2 = true) : numberOk nf f i = (i.n == 0) := by
  obtain ⟨op, a, b, c, n⟩ := i
  simp only at h h2 ⊢
  rw [← opIn_uses] at h2
  unfold opIn at h2
  simp at h2
  obtain ⟨k, rfl⟩ := Int.eq_ofNat_of_zero_le (show 0 ≤ op by omega)
  have hh : ∀ j : Fin 39, useBit (j.1 : Int) 8 = false → j.1 ≠ 1 ∧ j.1 ≠ 21 ∧ j.1 ≠ 22 ∧ j.1 ≠ 23 ∧ j.1 ≠ 24 ∧ j.1 ≠ 25 ∧ j.1 ≠ 26 ∧ j.1 ≠ 32 ∧ j.1 ≠ 33 ∧ j.1 ≠ 34 ∧ j.1 ≠ 35 := by decide
  obtain ⟨e1, e2, e3, e4, e5, e6, e7, e8, e9, e10, e11⟩ := hh ⟨k, by omega⟩ h
  simp only at e1 e2 e3 e4 e5 e6 e7 e8 e9 e10 e11
  have t : ∀ c : Nat, k ≠ c → ((k : Int) == (c : Int)) = false := fun c hc => beq_eq_false_iff_ne.2 (by omega)
  have f1 : ((k : Int) == 1) = false := t 1 e1
  have f2 : ((k : Int) == 21) = false := t 21 e2
  have f3 : ((k : Int) == 22) = false := t 22 e3
  have f4 : ((k : Int) == 23) = false := t 23 e4
  have f5 : ((k : Int) == 24) = false := t 24 e5
  have f6 : ((k : Int) == 25) = false := t 25 e6
  have f7 : ((k : Int) == 26) = false := t 26 e7
  have f8 : ((k : Int) == 32) = false := t 32 e8
  have f9 : ((k : Int) == 33) = false := t 33 e9
  have f10 : ((k : Int) == 34) = false := t 34 e10
  have f11 : ((k : Int) == 35) = false := t 35 e11
  unfold numberOk
  simp only [f2, f3, f4, f5, f6, f7, f8, f9, f10, f11]
  rw [show ((k : Int) == 1) = false from beq_eq_false_iff_ne.2 (by omega)]
  simp
set_option maxRecDepth 100000 in
set_option maxHeartbeats 4000000 in
theorem dnumber_c (A : Option Addr) (ni ci : Nat) (B : Option Addr) (nf cf : Nat) (m : Int) (f : Fn) (hf : FnIn f) (hf0 : 0 ≤ f.first) (hf2 : 2 ≤ f.frame) (hfc : f.first + f.count ≤ 9223372036854775807) (hfc0 : 0 ≤ f.count) (i : Ins) (hi : InsIn i) (hN : useBit i.op 8 = true) (hU : (usesOf i.op).2 = true) (hnf : nf ≤ 9223372036854775807) (w : World) :
    Calls Try.prog 46 #[codeV A ni ci B nf cf m, fnV f, .int .i64 i.op, .int .i64 i.n] w fun e w' => e = .returned (.bool (numberOk nf f i)) ∧ Below w.heap.size w w' := by
  have hop := useN_op i.op hN hU
  obtain ⟨op, a, b, c, n⟩ := i
  obtain ⟨name, frame, first, count, params⟩ := f
  obtain ⟨⟨o1, o2⟩, _, _, _, ⟨n1, n2⟩⟩ := hi
  obtain ⟨⟨f1, f2⟩, ⟨f3, f4⟩, ⟨f5, f6⟩, _⟩ := hf
  simp only at *
  clear hN hU
  unfold codeV fnV
  simp only
  rcases hop with rfl | rfl | rfl | rfl | rfl | rfl | rfl | rfl | rfl | rfl | rfl
  all_goals go_enter Try.func46, Try.ntmps46
  all_goals go_wp2
  all_goals go_ret
  all_goals refine ⟨?_, by repeat (first | exact Below.refl _ _ | apply ba)⟩
  all_goals first | rfl | (refine congrArg (fun b => Ending.returned (Value.bool b)) ?_; unfold numberOk; rw [Bool.eq_iff_iff]; simp [*]; done) | (refine congrArg (fun b => Ending.returned (Value.bool b)) ?_; unfold numberOk; rw [Bool.eq_iff_iff]; simp [*]; omega)
end Go.Proofs.Ytkjfbojmkkdgoaa
