/- right: what it tells. -/
import Derived.Test.YtdpeckfdilpidaaW2
set_option linter.unusedVariables false
set_option linter.unusedSimpArgs false
namespace Go.Proofs.Ytdpeckfdilpidaa
open Go.RowKit
attribute [local go_sem ↓] Go.wp_at_zero Go.wp_at_succ
def RightPost (w : World) (len : Nat) (X : Nat → List Int) (e : Ending) (w' : World) : Prop := ∃ b, e = .returned (.bool b) ∧ (b = true ↔ Right len X ∧ 0 < len) ∧ w' = w
set_option maxRecDepth 100000 in
set_option maxHeartbeats 4000000 in
theorem right_c (w : World) (G : Nat → Prop) (A : Option Addr) (len cap : Nat) (X : Nat → List Int) (h : RLL w G A len X) : Calls Try.prog 16 #[.slice A len cap] w (RightPost w len X) := by
  have C := Lib.hid h.at_
  have hbig := h.big
  clear h
  have BAD := Lib.hid (fun (hb : ¬ Right len X) => show RightPost w len X (.returned (.bool false)) w from ⟨false, rfl, Iff.intro (fun h => by cases h) (fun h => absurd h.1 hb), rfl⟩)
  have GOOD := Lib.hid (fun (hb : Right len X) => show RightPost w len X (.returned (.bool (decide (0 < len)))) w from ⟨_, rfl, Iff.intro (fun h => ⟨hb, by have := of_decide_eq_true h; omega⟩) (fun h => decide_eq_true (by omega)), rfl⟩)
  go_enter Try.func16, Try.ntmps16
  go_wp2_with fail
  go_loop [3] (fun i => ∃ k : Nat, k ≤ len ∧ i = .int .i64 (k : Int) ∧ Hid (∀ k', k' < k → ∀ i, i < (X k').length → 0 ≤ (X k').getD i 0 ∧ (X k').getD i 0 < len)) (fun i => len - (intOf i).toNat)
  case atStart => exact ⟨0, by omega, rfl, fun k' hk => absurd hk (Nat.not_lt_zero _)⟩
  case round =>
    obtain ⟨k, hk, rfl, HK⟩ := hrel
    by_cases hlt : k < len
    · obtain ⟨b, off, Ak, ck, rfl, hGb, hbl, ck0, hRL⟩ := C.out k hlt
      have RR := Lib.hid hRL.2
      have hxl := hRL.1
      obtain ⟨L, hL⟩ : ∃ L, L = (X k).length := ⟨_, rfl⟩
      rw [← hL] at ck0 RR hxl
      have HL := Lib.hid hL
      clear hRL C hL
      go_wp2_with fail
      go_loop [4] (fun i => ∃ t : Nat, t ≤ L ∧ i = .int .i64 (t : Int) ∧ Hid (∀ i, i < t → 0 ≤ (X k).getD i 0 ∧ (X k).getD i 0 < len)) (fun i => L - (intOf i).toNat)
      case atStart => exact ⟨0, by omega, rfl, fun i hi => absurd hi (Nat.not_lt_zero _)⟩
      case round =>
        obtain ⟨t, ht, rfl, HT⟩ := hrel
        by_cases htl : t < L
        · obtain ⟨hin, b', off', rfl, hGb', hbl', ct0⟩ := RR.out t htl
          by_cases hr : 0 ≤ (X k).getD t 0 ∧ (X k).getD t 0 < len
          · have HN : Hid (∀ i, i < t + 1 → 0 ≤ (X k).getD i 0 ∧ (X k).getD i 0 < len) := fun i hi => by
              by_cases he : i = t
              · rw [he]; exact hr
              · exact HT.out i (by omega)
            clear RR HT HK BAD GOOD HL
            generalize (X k).getD t 0 = y at *
            obtain ⟨hr1, hr2⟩ := hr
            go_wp2_with fail
            go_round
            case rel => exact ⟨t + 1, by omega, by go_num, HN⟩
            case measure => first | (simp [intOf]; done) | (simp [intOf]; omega)
          · have E := Lib.hid (BAD.out (fun hh => hr (hh k hlt t (by rw [← HL.out]; exact htl))))
            clear RR HT HK BAD GOOD HL
            generalize (X k).getD t 0 = y at *
            rcases (show y < 0 ∨ (0 ≤ y ∧ (len : Int) ≤ y) by omega) with hc | ⟨hc1, hc2⟩
            · go_wp2_with fail
              go_ret
              exact E.out
            · go_wp2_with fail
              go_ret
              exact E.out
        · have HN : Hid (∀ k', k' < k + 1 → ∀ i, i < (X k').length → 0 ≤ (X k').getD i 0 ∧ (X k').getD i 0 < len) := fun k' hk' i hi => by
            by_cases he : k' = k
            · subst he; exact HT.out i (by have := HL.out; omega)
            · exact HK.out k' (by omega) i hi
          clear RR HT HK BAD GOOD HL
          go_wp2_with fail
          go_round
          case rel => exact ⟨k + 1, by omega, by go_num, HN⟩
          case measure => first | (simp [intOf]; done) | (simp [intOf]; omega)
    · have E := Lib.hid (GOOD.out (fun k' hk' i hi => HK.out k' (by omega) i hi))
      clear HK C BAD GOOD
      go_wp2_with fail
      go_ret
      exact E.out
end Go.Proofs.Ytdpeckfdilpidaa
