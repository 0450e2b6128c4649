/- names: the walks. -/
import Derived.Test.YtkjfbojmkkdgoaaA2
import Derived.Lib.ConvBytes
set_option linter.unusedVariables false
set_option linter.unusedSimpArgs false
namespace Go.Proofs.Ytkjfbojmkkdgoaa
open Go.RowKit
attribute [local go_sem ↓] Go.wp_at_zero Go.wp_at_succ
def wordsL : List (List UInt8) := [[102, 117, 110, 99], [118, 97, 114], [105, 102], [101, 108, 115, 101], [102, 111, 114], [114, 101, 116, 117, 114, 110], [98, 114, 101, 97, 107], [99, 111, 110, 116, 105, 110, 117, 101], [112, 114, 105, 110, 116], [112, 97, 110, 105, 99], [105, 110, 112, 117, 116], [108, 101, 110], [109, 97, 107, 101], [105, 110, 116], [98, 111, 111, 108], [116, 114, 117, 101], [102, 97, 108, 115, 101], [110, 105, 108]]
def isWordB (b : ByteArray) : Bool := wordsL.any (b.toList == ·)
def bAt (b : ByteArray) (i : Nat) : Nat := (b.data.toList.getD i 0).toNat
def letter (c : Nat) : Bool := c == 95 || decide (97 ≤ c) && decide (c ≤ 122) || decide (65 ≤ c) && decide (c ≤ 90)
def digit (c : Nat) : Bool := decide (48 ≤ c) && decide (c ≤ 57)
def charOk (k c : Nat) : Bool := letter c || digit c && decide (0 < k)
def NameOk (b : ByteArray) : Prop := 0 < b.size ∧ b.size ≤ 64 ∧ isWordB b = false ∧ ∀ i, i < b.size → charOk i (bAt b i) = true
theorem char_cases (k c : Nat) : (charOk k c = true ∧ (c = 95 ∨ (97 ≤ c ∧ c ≤ 122) ∨ (65 ≤ c ∧ c ≤ 90) ∨ (48 ≤ c ∧ c ≤ 57 ∧ 0 < k))) ∨ (charOk k c = false ∧ (c < 48 ∨ (48 ≤ c ∧ c ≤ 57 ∧ k = 0) ∨ (58 ≤ c ∧ c ≤ 64) ∨ (91 ≤ c ∧ c ≤ 94) ∨ c = 96 ∨ 122 < c)) := by
  unfold charOk letter digit
  simp only [Bool.or_eq_true, Bool.and_eq_true, beq_iff_eq, decide_eq_true_eq, Bool.or_eq_false_iff, Bool.and_eq_false_iff, beq_eq_false_iff_ne, decide_eq_false_iff_not, ne_eq]
  omega
theorem bytes_len (b : ByteArray) : b.toList.length = b.size := by rw [ByteArray.toList_eq, Array.length_toList]; rfl
theorem size_of_empty {b : ByteArray} (h : b.toList.isEmpty = true) : b.size = 0 := by
  rw [← bytes_len, List.isEmpty_iff.1 h]; rfl
theorem size_of_some {b : ByteArray} (h : b.toList.isEmpty = false) : 0 < b.size := by
  rcases Nat.eq_zero_or_pos b.size with h0 | h0
  · have h1 : b.toList.length = 0 := by rw [bytes_len]; exact h0
    rw [List.length_eq_zero_iff.1 h1] at h; cases h
  · exact h0
def NamePost (b : ByteArray) (w : World) (e : Ending) (w' : World) : Prop := ∃ r, e = .returned (.bool r) ∧ (r = true ↔ NameOk b) ∧ Below w.heap.size w w'
set_option maxRecDepth 100000 in
set_option maxHeartbeats 16000000 in
theorem rname_c (b : ByteArray) (hb : b.size ≤ 9223372036854775807) (w : World) : Calls Try.prog 47 #[.string b] w (NamePost b w) := by
  have BAD := Lib.hid (fun (hn : ¬ NameOk b) => show ∀ w', Below w.heap.size w w' → NamePost b w (.returned (.bool false)) w' from fun w' hw => ⟨false, rfl, Iff.intro (fun h => by cases h) (fun h => absurd h hn), hw⟩)
  have GOOD := Lib.hid (fun (r : Bool) (hr : r = true ↔ NameOk b) => show ∀ w', Below w.heap.size w w' → NamePost b w (.returned (.bool r)) w' from fun w' hw => ⟨r, rfl, hr, hw⟩)
  cases h0 : b.toList.isEmpty with
  | true =>
    have E := Lib.hid (BAD.out (fun h => by have := h.1; have := size_of_empty h0; omega) w (Below.refl _ _))
    clear BAD GOOD
    go_enter Try.func47, Try.ntmps47
    go_wp2_with fail
    go_ret
    exact E.out
  | false =>
  cases h1 : (b.toList == [102, 117, 110, 99]) with
  | true =>
    have E := Lib.hid (BAD.out (fun h => by have := h.2.2.1; simp [isWordB, wordsL, h1] at this) w (Below.refl _ _))
    clear BAD GOOD
    go_enter Try.func47, Try.ntmps47
    go_wp2_with fail
    go_ret
    exact E.out
  | false =>
  cases h2 : (b.toList == [118, 97, 114]) with
  | true =>
    have E := Lib.hid (BAD.out (fun h => by have := h.2.2.1; simp [isWordB, wordsL, h2] at this) w (Below.refl _ _))
    clear BAD GOOD
    go_enter Try.func47, Try.ntmps47
    go_wp2_with fail
    go_ret
    exact E.out
  | false =>
  cases h3 : (b.toList == [105, 102]) with
  | true =>
    have E := Lib.hid (BAD.out (fun h => by have := h.2.2.1; simp [isWordB, wordsL, h3] at this) w (Below.refl _ _))
    clear BAD GOOD
    go_enter Try.func47, Try.ntmps47
    go_wp2_with fail
    go_ret
    exact E.out
  | false =>
  cases h4 : (b.toList == [101, 108, 115, 101]) with
  | true =>
    have E := Lib.hid (BAD.out (fun h => by have := h.2.2.1; simp [isWordB, wordsL, h4] at this) w (Below.refl _ _))
    clear BAD GOOD
    go_enter Try.func47, Try.ntmps47
    go_wp2_with fail
    go_ret
    exact E.out
  | false =>
  cases h5 : (b.toList == [102, 111, 114]) with
  | true =>
    have E := Lib.hid (BAD.out (fun h => by have := h.2.2.1; simp [isWordB, wordsL, h5] at this) w (Below.refl _ _))
    clear BAD GOOD
    go_enter Try.func47, Try.ntmps47
    go_wp2_with fail
    go_ret
    exact E.out
  | false =>
  cases h6 : (b.toList == [114, 101, 116, 117, 114, 110]) with
  | true =>
    have E := Lib.hid (BAD.out (fun h => by have := h.2.2.1; simp [isWordB, wordsL, h6] at this) w (Below.refl _ _))
    clear BAD GOOD
    go_enter Try.func47, Try.ntmps47
    go_wp2_with fail
    go_ret
    exact E.out
  | false =>
  cases h7 : (b.toList == [98, 114, 101, 97, 107]) with
  | true =>
    have E := Lib.hid (BAD.out (fun h => by have := h.2.2.1; simp [isWordB, wordsL, h7] at this) w (Below.refl _ _))
    clear BAD GOOD
    go_enter Try.func47, Try.ntmps47
    go_wp2_with fail
    go_ret
    exact E.out
  | false =>
  cases h8 : (b.toList == [99, 111, 110, 116, 105, 110, 117, 101]) with
  | true =>
    have E := Lib.hid (BAD.out (fun h => by have := h.2.2.1; simp [isWordB, wordsL, h8] at this) w (Below.refl _ _))
    clear BAD GOOD
    go_enter Try.func47, Try.ntmps47
    go_wp2_with fail
    go_ret
    exact E.out
  | false =>
  cases h9 : (b.toList == [112, 114, 105, 110, 116]) with
  | true =>
    have E := Lib.hid (BAD.out (fun h => by have := h.2.2.1; simp [isWordB, wordsL, h9] at this) w (Below.refl _ _))
    clear BAD GOOD
    go_enter Try.func47, Try.ntmps47
    go_wp2_with fail
    go_ret
    exact E.out
  | false =>
  cases h10 : (b.toList == [112, 97, 110, 105, 99]) with
  | true =>
    have E := Lib.hid (BAD.out (fun h => by have := h.2.2.1; simp [isWordB, wordsL, h10] at this) w (Below.refl _ _))
    clear BAD GOOD
    go_enter Try.func47, Try.ntmps47
    go_wp2_with fail
    go_ret
    exact E.out
  | false =>
  cases h11 : (b.toList == [105, 110, 112, 117, 116]) with
  | true =>
    have E := Lib.hid (BAD.out (fun h => by have := h.2.2.1; simp [isWordB, wordsL, h11] at this) w (Below.refl _ _))
    clear BAD GOOD
    go_enter Try.func47, Try.ntmps47
    go_wp2_with fail
    go_ret
    exact E.out
  | false =>
  cases h12 : (b.toList == [108, 101, 110]) with
  | true =>
    have E := Lib.hid (BAD.out (fun h => by have := h.2.2.1; simp [isWordB, wordsL, h12] at this) w (Below.refl _ _))
    clear BAD GOOD
    go_enter Try.func47, Try.ntmps47
    go_wp2_with fail
    go_ret
    exact E.out
  | false =>
  cases h13 : (b.toList == [109, 97, 107, 101]) with
  | true =>
    have E := Lib.hid (BAD.out (fun h => by have := h.2.2.1; simp [isWordB, wordsL, h13] at this) w (Below.refl _ _))
    clear BAD GOOD
    go_enter Try.func47, Try.ntmps47
    go_wp2_with fail
    go_ret
    exact E.out
  | false =>
  cases h14 : (b.toList == [105, 110, 116]) with
  | true =>
    have E := Lib.hid (BAD.out (fun h => by have := h.2.2.1; simp [isWordB, wordsL, h14] at this) w (Below.refl _ _))
    clear BAD GOOD
    go_enter Try.func47, Try.ntmps47
    go_wp2_with fail
    go_ret
    exact E.out
  | false =>
  cases h15 : (b.toList == [98, 111, 111, 108]) with
  | true =>
    have E := Lib.hid (BAD.out (fun h => by have := h.2.2.1; simp [isWordB, wordsL, h15] at this) w (Below.refl _ _))
    clear BAD GOOD
    go_enter Try.func47, Try.ntmps47
    go_wp2_with fail
    go_ret
    exact E.out
  | false =>
  cases h16 : (b.toList == [116, 114, 117, 101]) with
  | true =>
    have E := Lib.hid (BAD.out (fun h => by have := h.2.2.1; simp [isWordB, wordsL, h16] at this) w (Below.refl _ _))
    clear BAD GOOD
    go_enter Try.func47, Try.ntmps47
    go_wp2_with fail
    go_ret
    exact E.out
  | false =>
  cases h17 : (b.toList == [102, 97, 108, 115, 101]) with
  | true =>
    have E := Lib.hid (BAD.out (fun h => by have := h.2.2.1; simp [isWordB, wordsL, h17] at this) w (Below.refl _ _))
    clear BAD GOOD
    go_enter Try.func47, Try.ntmps47
    go_wp2_with fail
    go_ret
    exact E.out
  | false =>
  cases h18 : (b.toList == [110, 105, 108]) with
  | true =>
    have E := Lib.hid (BAD.out (fun h => by have := h.2.2.1; simp [isWordB, wordsL, h18] at this) w (Below.refl _ _))
    clear BAD GOOD
    go_enter Try.func47, Try.ntmps47
    go_wp2_with fail
    go_ret
    exact E.out
  | false =>
  have hw : isWordB b = false := by simp [isWordB, wordsL, h1, h2, h3, h4, h5, h6, h7, h8, h9, h10, h11, h12, h13, h14, h15, h16, h17, h18]
  have hpos := size_of_some h0
  have HW := Lib.hid hw
  have hcv := Lib.run_convert_string_bytes (P := Try.prog) w 9 115 5 b (u := .string) Try.underlying9 Try.underlying115 Try.underlying5
  have CB := Lib.hid (fun j hj => Lib.bytesWorld_cell w 5 b j hj)
  have BW : Hid (Below w.heap.size w (Lib.bytesWorld w 5 b)) := ⟨rfl, rfl, rfl, by rw [Lib.bytesWorld_size]; omega, fun k hk => Lib.bytesWorld_at_old w 5 b k hk⟩
  clear hw
  go_enter Try.func47, Try.ntmps47
  go_wp2_with fail
  generalize Lib.bytesWorld w 5 b = w1 at *
  go_loop [30] (fun i => ∃ k : Nat, k ≤ b.size ∧ i = .int .i64 (k : Int) ∧ Hid (∀ j, j < k → charOk j (bAt b j) = true)) (fun i => b.size - (intOf i).toNat)
  case atStart => exact ⟨0, by omega, rfl, fun j hj => absurd hj (Nat.not_lt_zero _)⟩
  case round =>
    clear h0 h1 h2 h3 h4 h5 h6 h7 h8 h9 h10 h11 h12 h13 h14 h15 h16 h17 h18 hcv
    obtain ⟨k, hk, rfl, HK⟩ := hrel
    have BAD := Lib.hid (fun hn => BAD.out hn w1 BW.out)
    by_cases hlt : k < b.size
    · have cx := CB.out k hlt
      obtain ⟨x, hx⟩ : ∃ x, x = bAt b k := ⟨_, rfl⟩
      have HX := Lib.hid hx.symm
      have cx' : w1.cell? ⟨w.heap.size, k, none⟩ = some (.int .u8 (x : Int)) := by rw [cx, hx]; rfl
      have hx8 : x < 256 := by rw [hx]; exact UInt8.toNat_lt _
      clear cx hx CB
      rcases char_cases k x with ⟨hc, hx⟩ | ⟨hc, hx⟩
      · have HN : Hid (∀ j, j < k + 1 → charOk j (bAt b j) = true) := fun j hj => by
          by_cases he : j = k
          · rw [he, HX.out]; exact hc
          · exact HK.out j (by omega)
        clear HK BAD GOOD hc
        rcases hx with hx | hx | hx | hx
        · go_wp2_with fail
          go_round
          case rel => exact ⟨k + 1, by omega, by go_num, HN⟩
          case measure => first | (simp [intOf]; done) | (simp [intOf]; omega)
        · have hne : ((x : Int) != 95) = true := bne_iff_ne.2 (by omega)
          go_wp2_with fail
          go_round
          case rel => exact ⟨k + 1, by omega, by go_num, HN⟩
          case measure => first | (simp [intOf]; done) | (simp [intOf]; omega)
        · have hne : ((x : Int) != 95) = true := bne_iff_ne.2 (by omega)
          go_wp2_with fail
          go_round
          case rel => exact ⟨k + 1, by omega, by go_num, HN⟩
          case measure => first | (simp [intOf]; done) | (simp [intOf]; omega)
        · have hne : ((x : Int) != 95) = true := bne_iff_ne.2 (by omega)
          have hk0 : ((k : Int) == 0) = false := beq_eq_false_iff_ne.2 (by omega)
          go_wp2_with fail
          go_round
          case rel => exact ⟨k + 1, by omega, by go_num, HN⟩
          case measure => first | (simp [intOf]; done) | (simp [intOf]; omega)
      · have E := Lib.hid (BAD.out (fun h => by have := h.2.2.2 k hlt; rw [HX.out, hc] at this; cases this))
        clear HK BAD GOOD hc
        rcases hx with hx | hx | hx | hx | hx | hx
        · have hne : ((x : Int) != 95) = true := bne_iff_ne.2 (by omega)
          go_wp2_with fail
          go_ret
          exact E.out
        · obtain rfl : k = 0 := by omega
          have hne : ((x : Int) != 95) = true := bne_iff_ne.2 (by omega)
          go_wp2_with fail
          go_ret
          exact E.out
        · have hne : ((x : Int) != 95) = true := bne_iff_ne.2 (by omega)
          go_wp2_with fail
          go_ret
          exact E.out
        · have hne : ((x : Int) != 95) = true := bne_iff_ne.2 (by omega)
          go_wp2_with fail
          go_ret
          exact E.out
        · have hne : ((x : Int) != 95) = true := bne_iff_ne.2 (by omega)
          go_wp2_with fail
          go_ret
          exact E.out
        · have hne : ((x : Int) != 95) = true := bne_iff_ne.2 (by omega)
          go_wp2_with fail
          go_ret
          exact E.out
    · have E := Lib.hid (GOOD.out (decide ((b.size : Int) ≤ 64)) (Iff.intro (fun h => ⟨hpos, by have := of_decide_eq_true h; omega, HW.out, fun j hj => HK.out j (by omega)⟩) (fun h => decide_eq_true (by have := h.2.1; omega))) w1 BW.out)
      clear HK BAD GOOD CB
      go_wp2_with fail
      go_ret
      exact E.out
end Go.Proofs.Ytkjfbojmkkdgoaa
