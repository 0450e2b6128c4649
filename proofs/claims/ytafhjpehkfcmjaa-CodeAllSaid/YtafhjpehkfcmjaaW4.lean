/- code's isName: the walk. -/
import Derived.Test.YtafhjpehkfcmjaaW3
set_option linter.unusedVariables false
set_option linter.unusedSimpArgs false
namespace Go.Proofs.Ytafhjpehkfcmjaa
open Go.RowKit
attribute [local go_sem ↓] Go.wp_at_zero Go.wp_at_succ
def NamePost0 (b : ByteArray) (w : World) (e : Ending) (w' : World) : Prop := ∃ r, e = .returned (.bool r) ∧ (r = true ↔ NameOk b) ∧ w' = w
theorem or32 : ∀ x, x < 256 → ((97 ≤ x ||| 32 ∧ x ||| 32 ≤ 122) ↔ ((97 ≤ x ∧ x ≤ 122) ∨ (65 ≤ x ∧ x ≤ 90))) := by decide +kernel
theorem or32_lt : ∀ x, x < 256 → x ||| 32 < 256 := by decide +kernel
theorem bits32 : ∀ x : Nat, x < 256 → bits BinOp.or IntKind.u8 (x : Int) 32 = ((x ||| 32 : Nat) : Int) := by decide +kernel
set_option maxRecDepth 100000 in
set_option maxHeartbeats 16000000 in
theorem cname_c (b : ByteArray) (hb : b.size ≤ 64) (w : World) : Calls Try.prog 40 #[.string b] w (NamePost0 b w) := by
  have BAD := Lib.hid (fun (hn : ¬ NameOk b) => show NamePost0 b w (.returned (.bool false)) w from ⟨false, rfl, Iff.intro (fun h => by cases h) (fun h => absurd h hn), rfl⟩)
  have GOOD := Lib.hid (fun (r : Bool) (hr : r = true ↔ NameOk b) => show NamePost0 b w (.returned (.bool r)) w from ⟨r, rfl, hr, rfl⟩)
  go_enter Try.func40, Try.ntmps40
  go_wp2_with fail
  go_loop [7] (fun i => ∃ k : Nat, k ≤ b.size ∧ i = .int .i64 (k : Int) ∧ Hid (∀ j, j < k → charOk j (bAt b j) = true)) (fun i => b.size - (intOf i).toNat)
  case atStart => exact ⟨0, by omega, rfl, fun j hj => absurd hj (Nat.not_lt_zero _)⟩
  case round =>
    obtain ⟨k, hk, rfl, HK⟩ := hrel
    by_cases hlt : k < b.size
    · obtain ⟨x, hx⟩ : ∃ x, x = (b[k]'hlt).toNat := ⟨_, rfl⟩
      have HX : Hid (bAt b k = x) := by
        show bAt b k = x
        rw [hx]; unfold bAt
        rw [List.getD_eq_getElem?_getD, Array.getElem?_toList]
        have hl : k < b.data.size := hlt
        rw [Array.getElem?_eq_getElem hl]
        rfl
      have hx8 : x < 256 := by rw [hx]; exact UInt8.toNat_lt _
      have hbk : (b[k]'hlt).toNat = x := hx.symm
      obtain ⟨y, hy⟩ : ∃ y, y = x ||| 32 := ⟨_, rfl⟩
      have hbits : bits BinOp.or IntKind.u8 (x : Int) 32 = (y : Int) := by
        rw [hy]; exact bits32 x hx8
      have hy8 : y < 256 := by rw [hy]; exact or32_lt x hx8
      have hyl : (97 ≤ y ∧ y ≤ 122) ↔ ((97 ≤ x ∧ x ≤ 122) ∨ (65 ≤ x ∧ x ≤ 90)) := by rw [hy]; exact or32 x hx8
      clear hx hy
      rcases char_cases k x with ⟨hc, hx⟩ | ⟨hc, hx⟩
      · have HN : Hid (∀ j, j < k + 1 → charOk j (bAt b j) = true) := fun j hj => by
          by_cases he : j = k
          · rw [he, HX.out]; exact hc
          · exact HK.out j (by omega)
        clear HK BAD GOOD hc
        rcases hx with hx | hx | hx | hx
        · have hne : ((x : Int) != 95) = false := bne_eq_false_iff_eq.2 (by omega)
          go_wp2_with fail
          go_round
          case rel => exact ⟨k + 1, by omega, by go_num, HN⟩
          case measure => first | (simp [intOf]; done) | (simp [intOf]; omega)
        · have hy2 : 97 ≤ y ∧ y ≤ 122 := hyl.2 (by omega)
          have hne : ((x : Int) != 95) = true := bne_iff_ne.2 (by omega)
          clear hyl
          go_wp2_with fail
          go_round
          case rel => exact ⟨k + 1, by omega, by go_num, HN⟩
          case measure => first | (simp [intOf]; done) | (simp [intOf]; omega)
        · have hy2 : 97 ≤ y ∧ y ≤ 122 := hyl.2 (by omega)
          have hne : ((x : Int) != 95) = true := bne_iff_ne.2 (by omega)
          clear hyl
          go_wp2_with fail
          go_round
          case rel => exact ⟨k + 1, by omega, by go_num, HN⟩
          case measure => first | (simp [intOf]; done) | (simp [intOf]; omega)
        · have hy2 : y < 97 ∨ 122 < y := by have := mt hyl.1 (by omega); omega
          have hne : ((x : Int) != 95) = true := bne_iff_ne.2 (by omega)
          have hk0 : ((k : Int) == 0) = false := beq_eq_false_iff_ne.2 (by omega)
          clear hyl
          rcases hy2 with hy2 | hy2
          · go_wp2_with fail
            go_round
            case rel => exact ⟨k + 1, by omega, by go_num, HN⟩
            case measure => first | (simp [intOf]; done) | (simp [intOf]; omega)
          · go_wp2_with fail
            go_round
            case rel => exact ⟨k + 1, by omega, by go_num, HN⟩
            case measure => first | (simp [intOf]; done) | (simp [intOf]; omega)
      · have E := Lib.hid (BAD.out (fun h => by have := h.2.2.2 k hlt; rw [HX.out, hc] at this; cases this))
        have hy2 : y < 97 ∨ 122 < y := by
          have : ¬ ((97 ≤ x ∧ x ≤ 122) ∨ (65 ≤ x ∧ x ≤ 90)) := by omega
          have := mt hyl.1 this; omega
        have hne : ((x : Int) != 95) = true := bne_iff_ne.2 (by omega)
        clear HK BAD GOOD hc hyl
        rcases (show k = 0 ∨ (0 < k ∧ x < 48) ∨ (0 < k ∧ 48 ≤ x ∧ 57 < x) by omega) with rfl | ⟨hk1, hx1⟩ | ⟨hk1, hx1, hx2⟩
        · rcases hy2 with hy2 | hy2
          · go_wp2_with fail
            go_ret
            exact E.out
          · go_wp2_with fail
            go_ret
            exact E.out
        · have hk0 : ((k : Int) == 0) = false := beq_eq_false_iff_ne.2 (by omega)
          rcases hy2 with hy2 | hy2
          · go_wp2_with fail
            go_ret
            exact E.out
          · go_wp2_with fail
            go_ret
            exact E.out
        · have hk0 : ((k : Int) == 0) = false := beq_eq_false_iff_ne.2 (by omega)
          rcases hy2 with hy2 | hy2
          · go_wp2_with fail
            go_ret
            exact E.out
          · go_wp2_with fail
            go_ret
            exact E.out
    · have HC : Hid (∀ j, j < b.size → charOk j (bAt b j) = true) := fun j hj => HK.out j (by omega)
      clear HK
      cases h1 : (b.toList == [102, 117, 110, 99]) with
      | true =>
        have E := Lib.hid (BAD.out (fun h => by have := h.2.2.1; simp [isWordB, wordsL, h1] at this))
        clear BAD GOOD HC
        go_wp2_with fail
        go_ret
        exact E.out
      | false =>
      cases h2 : (b.toList == [118, 97, 114]) with
      | true =>
        have E := Lib.hid (BAD.out (fun h => by have := h.2.2.1; simp [isWordB, wordsL, h2] at this))
        clear BAD GOOD HC
        go_wp2_with fail
        go_ret
        exact E.out
      | false =>
      cases h3 : (b.toList == [105, 102]) with
      | true =>
        have E := Lib.hid (BAD.out (fun h => by have := h.2.2.1; simp [isWordB, wordsL, h3] at this))
        clear BAD GOOD HC
        go_wp2_with fail
        go_ret
        exact E.out
      | false =>
      cases h4 : (b.toList == [101, 108, 115, 101]) with
      | true =>
        have E := Lib.hid (BAD.out (fun h => by have := h.2.2.1; simp [isWordB, wordsL, h4] at this))
        clear BAD GOOD HC
        go_wp2_with fail
        go_ret
        exact E.out
      | false =>
      cases h5 : (b.toList == [102, 111, 114]) with
      | true =>
        have E := Lib.hid (BAD.out (fun h => by have := h.2.2.1; simp [isWordB, wordsL, h5] at this))
        clear BAD GOOD HC
        go_wp2_with fail
        go_ret
        exact E.out
      | false =>
      cases h6 : (b.toList == [114, 101, 116, 117, 114, 110]) with
      | true =>
        have E := Lib.hid (BAD.out (fun h => by have := h.2.2.1; simp [isWordB, wordsL, h6] at this))
        clear BAD GOOD HC
        go_wp2_with fail
        go_ret
        exact E.out
      | false =>
      cases h7 : (b.toList == [98, 114, 101, 97, 107]) with
      | true =>
        have E := Lib.hid (BAD.out (fun h => by have := h.2.2.1; simp [isWordB, wordsL, h7] at this))
        clear BAD GOOD HC
        go_wp2_with fail
        go_ret
        exact E.out
      | false =>
      cases h8 : (b.toList == [99, 111, 110, 116, 105, 110, 117, 101]) with
      | true =>
        have E := Lib.hid (BAD.out (fun h => by have := h.2.2.1; simp [isWordB, wordsL, h8] at this))
        clear BAD GOOD HC
        go_wp2_with fail
        go_ret
        exact E.out
      | false =>
      cases h9 : (b.toList == [112, 114, 105, 110, 116]) with
      | true =>
        have E := Lib.hid (BAD.out (fun h => by have := h.2.2.1; simp [isWordB, wordsL, h9] at this))
        clear BAD GOOD HC
        go_wp2_with fail
        go_ret
        exact E.out
      | false =>
      cases h10 : (b.toList == [112, 97, 110, 105, 99]) with
      | true =>
        have E := Lib.hid (BAD.out (fun h => by have := h.2.2.1; simp [isWordB, wordsL, h10] at this))
        clear BAD GOOD HC
        go_wp2_with fail
        go_ret
        exact E.out
      | false =>
      cases h11 : (b.toList == [105, 110, 112, 117, 116]) with
      | true =>
        have E := Lib.hid (BAD.out (fun h => by have := h.2.2.1; simp [isWordB, wordsL, h11] at this))
        clear BAD GOOD HC
        go_wp2_with fail
        go_ret
        exact E.out
      | false =>
      cases h12 : (b.toList == [108, 101, 110]) with
      | true =>
        have E := Lib.hid (BAD.out (fun h => by have := h.2.2.1; simp [isWordB, wordsL, h12] at this))
        clear BAD GOOD HC
        go_wp2_with fail
        go_ret
        exact E.out
      | false =>
      cases h13 : (b.toList == [109, 97, 107, 101]) with
      | true =>
        have E := Lib.hid (BAD.out (fun h => by have := h.2.2.1; simp [isWordB, wordsL, h13] at this))
        clear BAD GOOD HC
        go_wp2_with fail
        go_ret
        exact E.out
      | false =>
      cases h14 : (b.toList == [105, 110, 116]) with
      | true =>
        have E := Lib.hid (BAD.out (fun h => by have := h.2.2.1; simp [isWordB, wordsL, h14] at this))
        clear BAD GOOD HC
        go_wp2_with fail
        go_ret
        exact E.out
      | false =>
      cases h15 : (b.toList == [98, 111, 111, 108]) with
      | true =>
        have E := Lib.hid (BAD.out (fun h => by have := h.2.2.1; simp [isWordB, wordsL, h15] at this))
        clear BAD GOOD HC
        go_wp2_with fail
        go_ret
        exact E.out
      | false =>
      cases h16 : (b.toList == [116, 114, 117, 101]) with
      | true =>
        have E := Lib.hid (BAD.out (fun h => by have := h.2.2.1; simp [isWordB, wordsL, h16] at this))
        clear BAD GOOD HC
        go_wp2_with fail
        go_ret
        exact E.out
      | false =>
      cases h17 : (b.toList == [102, 97, 108, 115, 101]) with
      | true =>
        have E := Lib.hid (BAD.out (fun h => by have := h.2.2.1; simp [isWordB, wordsL, h17] at this))
        clear BAD GOOD HC
        go_wp2_with fail
        go_ret
        exact E.out
      | false =>
      cases h18 : (b.toList == [110, 105, 108]) with
      | true =>
        have E := Lib.hid (BAD.out (fun h => by have := h.2.2.1; simp [isWordB, wordsL, h18] at this))
        clear BAD GOOD HC
        go_wp2_with fail
        go_ret
        exact E.out
      | false =>
      have hw : isWordB b = false := by simp [isWordB, wordsL, h1, h2, h3, h4, h5, h6, h7, h8, h9, h10, h11, h12, h13, h14, h15, h16, h17, h18]
      cases h0 : b.toList.isEmpty with
      | true =>
        have E := Lib.hid (BAD.out (fun h => by have := h.1; have := size_of_empty h0; omega))
        clear BAD GOOD HC hw
        go_wp2_with fail
        go_ret
        exact E.out
      | false =>
        have E := Lib.hid (GOOD.out true (Iff.intro (fun _ => ⟨size_of_some h0, hb, hw, HC.out⟩) (fun _ => rfl)))
        clear BAD GOOD HC hw
        go_wp2_with fail
        go_ret
        exact E.out
end Go.Proofs.Ytafhjpehkfcmjaa
