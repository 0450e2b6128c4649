/- code's bytes: what is written reads as the code; what reads is what is written. Plain. -/
import Derived.Test.YtafhjpehkfcmjaaP1
import Derived.Test.YtafhjpehkfcmjaaW16
set_option linter.unusedVariables false
set_option linter.unusedSimpArgs false
namespace Go.Proofs.Ytafhjpehkfcmjaa
open Go.RowKit
/-! ### numbers -/
theorem leN_lowB (v : Int) : ∀ k, leN (lowB v k) = (IntKind.u64.wrap v).toNat % 256 ^ k
  | 0 => by simp [lowB, leN, Nat.mod_one]
  | k + 1 => by rw [lowB, leN_snoc, leN_lowB v k, lowB_length, byteOf_nat, Nat.mod_pow_succ]
theorem leN_inj : ∀ (l m : List UInt8), l.length = m.length → leN l = leN m → l = m
  | [], [], _, _ => rfl
  | [], _ :: _, h, _ => by simp at h
  | _ :: _, [], h, _ => by simp at h
  | a :: l, b :: m, h, e => by
    rw [leN, leN] at e
    have h1 := UInt8.toNat_lt a
    have h2 := UInt8.toNat_lt b
    have ha : a.toNat = b.toNat := by omega
    rw [UInt8.toNat_inj.1 ha, leN_inj l m (by simpa using h) (by omega)]
theorem wrap_nat {v : Nat} (h : v < 18446744073709551616) : (IntKind.u64.wrap (v : Int)).toNat = v := by
  simp [IntKind.wrap, IntKind.signed, IntKind.bits]; omega
theorem pow256_le {n : Nat} (h : n ≤ 8) : 256 ^ n ≤ 18446744073709551616 := Nat.le_trans (Nat.pow_le_pow_right (by omega) h) (by decide)
theorem leN_low {v n : Nat} (hn : n ≤ 8) (h : v < 256 ^ n) : leN (lowB (v : Int) n) = v := by
  have := pow256_le hn
  rw [leN_lowB, wrap_nat (by omega), Nat.mod_eq_of_lt h]
theorem low_leN {l : List UInt8} (hl : l.length ≤ 8) : lowB (leN l : Int) l.length = l := by
  have h := leN_lt l
  exact leN_inj _ _ (lowB_length ..) (leN_low hl h)
theorem lowB_wrap (v : Int) (n : Nat) : lowB (IntKind.i64.wrap (IntKind.u64.wrap v)) n = lowB v n := by
  have e : IntKind.u64.wrap (IntKind.i64.wrap (IntKind.u64.wrap v)) = IntKind.u64.wrap v := by
    simp [IntKind.wrap, IntKind.signed, IntKind.bits]
    split <;> omega
  have : ∀ k, byteOf (IntKind.i64.wrap (IntKind.u64.wrap v)) k = byteOf v k := fun k => by unfold byteOf; rw [e]
  induction n with
  | zero => rfl
  | succ n ih => rw [lowB, ih, this, lowB]
theorem wrap_i64 {v : Int} (h : i64in v) : IntKind.i64.wrap v = v := by
  obtain ⟨h1, h2⟩ := h
  simp [IntKind.wrap, IntKind.signed, IntKind.bits]
  omega
theorem wrap_back {v : Int} (h : i64in v) : IntKind.i64.wrap (((IntKind.u64.wrap v).toNat : Nat) : Int) = v := by
  obtain ⟨h1, h2⟩ := h
  simp [IntKind.wrap, IntKind.signed, IntKind.bits]
  omega
theorem lowB_u64 (v : Int) (n : Nat) : lowB (((IntKind.u64.wrap v).toNat : Nat) : Int) n = lowB v n := by
  have e : IntKind.u64.wrap (((IntKind.u64.wrap v).toNat : Nat) : Int) = IntKind.u64.wrap v := by
    simp [IntKind.wrap, IntKind.signed, IntKind.bits]; omega
  have : ∀ k, byteOf (((IntKind.u64.wrap v).toNat : Nat) : Int) k = byteOf v k := fun k => by unfold byteOf; rw [e]
  induction n with
  | zero => rfl
  | succ n ih => rw [lowB, ih, this, lowB]
theorem wrap_in (v : Int) : i64in (IntKind.i64.wrap v) := by
  constructor <;> simp [IntKind.wrap, IntKind.signed, IntKind.bits] <;> omega
theorem low1 (v : Int) : lowB v 1 = [u8 v] := by
  show [byteOf v 0] = [u8 v]
  congr 1
  apply UInt8.toNat_inj.1
  have h1 := byteOf_int v 0
  have h2 := u8_int v
  have : IntKind.u64.wrap v % 256 = v % 256 := by simp [IntKind.wrap, IntKind.signed, IntKind.bits]
  simp at h1
  omega
theorem u8_eq {a b : Int} (ha : 0 ≤ a) (ha2 : a < 256) (hb : 0 ≤ b) (hb2 : b < 256) (h : u8 a = u8 b) : a = b := by
  have h1 := u8_int a
  have h2 := u8_int b
  rw [h] at h1
  omega
/-! ### bytes at a place -/
def At (B : Nat → UInt8) (L p : Nat) (l : List UInt8) : Prop := p + l.length ≤ L ∧ slc B p l.length = l
theorem At.append {B : Nat → UInt8} {L p : Nat} {l m : List UInt8} : At B L p (l ++ m) ↔ At B L p l ∧ At B L (p + l.length) m := by
  unfold At
  rw [List.length_append, slc_add]
  constructor
  · rintro ⟨h1, h2⟩
    obtain ⟨h3, h4⟩ := List.append_inj h2 (slc_length ..)
    exact ⟨⟨by omega, h3⟩, by omega, h4⟩
  · rintro ⟨⟨h1, h2⟩, h3, h4⟩
    exact ⟨by omega, by rw [h2, h4]⟩
theorem At.nil {B : Nat → UInt8} {L p : Nat} (h : p ≤ L) : At B L p [] := ⟨h, rfl⟩
theorem At.cons {B : Nat → UInt8} {L p : Nat} {b : UInt8} {m : List UInt8} : At B L p (b :: m) ↔ At B L p [b] ∧ At B L (p + 1) m := At.append (l := [b])
section
variable {B : Nat → UInt8} {L p : Nat} {c : Cd}
theorem run_num {n lo hi v : Nat} {k : Nat → Pr} (h : At B L p (lowB (v : Int) n)) (hn : n ≤ 8) (hv : v < 256 ^ n) (h1 : lo ≤ v) (h2 : v ≤ hi) : run B L (pNum n lo hi k) p = run B L (k v) (p + n) := by
  obtain ⟨h3, h4⟩ := h
  rw [lowB_length] at h3 h4
  have e : leN (slc B p n) = v := by rw [h4]; exact leN_low hn hv
  unfold pNum
  rw [run_step h3 (by rw [e]; exact ⟨h1, h2⟩), e]
theorem num_run {n lo hi : Nat} {k : Nat → Pr} (hn : n ≤ 8) (h : run B L (pNum n lo hi k) p = .good c) : ∃ v : Nat, lo ≤ v ∧ v ≤ hi ∧ v < 256 ^ n ∧ At B L p (lowB (v : Int) n) ∧ run B L (k v) (p + n) = .good c := by
  unfold pNum at h
  by_cases h1 : p + n ≤ L
  · by_cases h2 : lo ≤ leN (slc B p n) ∧ leN (slc B p n) ≤ hi
    · rw [run_step h1 h2] at h
      have hl := leN_lt (slc B p n)
      have e := low_leN (l := slc B p n) (by rw [slc_length]; exact hn)
      rw [slc_length] at hl e
      exact ⟨_, h2.1, h2.2, hl, ⟨by rw [lowB_length]; exact h1, by rw [lowB_length]; exact e.symm⟩, h⟩
    · rw [run_wrong h1 h2] at h; cases h
  · rw [run_lack (by omega)] at h; cases h
theorem run_head {k : Pr} : ∀ (l : List UInt8) (p : Nat), At B L p l → run B L (pHead l k) p = run B L k (p + l.length)
  | [], p, _ => rfl
  | b :: l, p, h => by
    obtain ⟨h1, h2⟩ := At.cons.1 h
    have hb := UInt8.toNat_lt b
    have e : lowB (b.toNat : Int) 1 = [b] := by
      rw [low1]
      congr 1
      apply UInt8.toNat_inj.1
      have := u8_int b.toNat
      omega
    rw [pHead, run_num (v := b.toNat) (by rw [e]; exact h1) (by omega) (by simpa using hb) (Nat.le_refl _) (Nat.le_refl _), run_head l _ h2, List.length_cons]
    congr 1
    omega
theorem head_run {k : Pr} : ∀ (l : List UInt8) (p : Nat), p ≤ L → run B L (pHead l k) p = .good c → At B L p l ∧ run B L k (p + l.length) = .good c
  | [], p, hp, h => ⟨At.nil hp, h⟩
  | b :: l, p, hp, h => by
    rw [pHead] at h
    obtain ⟨v, h1, h2, h3, h4, h5⟩ := num_run (by omega) h
    obtain rfl : v = b.toNat := by omega
    have e : lowB (b.toNat : Int) 1 = [b] := by
      rw [low1]
      congr 1
      apply UInt8.toNat_inj.1
      have := u8_int b.toNat
      have := UInt8.toNat_lt b
      omega
    rw [e] at h4
    obtain ⟨h6, h7⟩ := head_run l _ (by have := h4.1; simpa using this) h5
    refine ⟨At.cons.2 ⟨h4, h6⟩, ?_⟩
    rw [← h7, List.length_cons]
    congr 1
    omega
/-! ### an instruction -/
theorem op_cases {op : Nat} (h1 : 1 ≤ op) (h2 : op ≤ 38) : (usesOf (op : Int)).2 = true ∧ useBit op 1 = decide (0 < regsOf op) ∧ useBit op 2 = decide (1 < regsOf op) ∧ useBit op 4 = decide (2 < regsOf op) ∧ useBit op 8 = wideOf op := by
  have h : ∀ j : Fin 39, 1 ≤ j.1 → (usesOf (j.1 : Int)).2 = true ∧ useBit (j.1 : Int) 1 = decide (0 < regsOf (j.1 : Int)) ∧ useBit (j.1 : Int) 2 = decide (1 < regsOf (j.1 : Int)) ∧ useBit (j.1 : Int) 4 = decide (2 < regsOf (j.1 : Int)) ∧ useBit (j.1 : Int) 8 = wideOf (j.1 : Int) := by decide
  exact h ⟨op, by omega⟩ h1
theorem uses_in {op : Int} (h : (usesOf op).2 = true) : ∃ k : Nat, op = k ∧ 1 ≤ k ∧ k ≤ 38 := by
  rw [← opIn_uses] at h
  unfold opIn at h
  simp at h
  obtain ⟨k, rfl⟩ := Int.eq_ofNat_of_zero_le (show 0 ≤ op by omega)
  exact ⟨k, rfl, by omega, by omega⟩
theorem field_used {n : Int} {u : Bool} (h : fieldOk n u = true) : ∃ k : Nat, n = k ∧ k ≤ 15 ∧ (u = false → k = 0) := by
  unfold fieldOk at h
  cases u <;> simp at h
  · exact ⟨0, by omega, by omega, fun _ => rfl⟩
  · obtain ⟨k, rfl⟩ := Int.eq_ofNat_of_zero_le (show 0 ≤ n by omega)
    exact ⟨k, rfl, by omega, fun h => by cases h⟩
theorem used_field {k : Nat} {u : Bool} (h : k ≤ 15) (hu : u = false → k = 0) : fieldOk (k : Int) u = true := by
  unfold fieldOk
  cases u
  · rw [hu rfl]; rfl
  · by_cases e : k = 0
    · subst e; rfl
    · simp; omega
end
end Go.Proofs.Ytafhjpehkfcmjaa
