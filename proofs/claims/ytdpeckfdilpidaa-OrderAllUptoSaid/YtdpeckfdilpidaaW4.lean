/- slices.Reverse: a row of the call's own turned round. -/
import Derived.Test.YtdpeckfdilpidaaW3
set_option linter.unusedVariables false
set_option linter.unusedSimpArgs false
namespace Go.Proofs.Ytdpeckfdilpidaa
open Go.RowKit
attribute [local go_sem ↓] Go.wp_at_zero Go.wp_at_succ
/-- The first t and the last t have changed places. -/
def mix (l : List Int) (t : Nat) : List Int := (List.range l.length).map fun k => if k < t ∨ l.length ≤ k + t then l.getD (l.length - 1 - k) 0 else l.getD k 0
theorem mix_length (l : List Int) (t : Nat) : (mix l t).length = l.length := by simp [mix]
theorem mix_get (l : List Int) (t k : Nat) (h : k < l.length) : (mix l t).getD k 0 = if k < t ∨ l.length ≤ k + t then l.getD (l.length - 1 - k) 0 else l.getD k 0 := by
  unfold mix
  rw [List.getD_eq_getElem?_getD, List.getElem?_map, List.getElem?_range h]
  rfl
theorem mix_zero (l : List Int) : mix l 0 = l := by
  refine getD_ext (mix_length l 0) fun j hj => ?_
  rw [mix_length] at hj
  rw [mix_get l 0 j hj, if_neg (by omega)]
theorem mix_done (l : List Int) (t : Nat) (h : l.length ≤ 2 * t + 1) : mix l t = l.reverse := by
  refine getD_ext (by rw [mix_length, List.length_reverse]) fun j hj => ?_
  rw [mix_length] at hj
  have e : l.reverse.getD j 0 = l.getD (l.length - 1 - j) 0 := by
    rw [List.getD_eq_getElem?_getD, List.getElem?_reverse hj, ← List.getD_eq_getElem?_getD]
  rw [mix_get l t j hj, e]
  by_cases hc : j < t ∨ l.length ≤ j + t
  · rw [if_pos hc]
  · rw [if_neg hc, show l.length - 1 - j = j by omega]
theorem mix_step (l : List Int) (t : Nat) (h : 2 * t + 1 < l.length) : ((mix l t).set t ((mix l t).getD (l.length - 1 - t) 0)).set (l.length - 1 - t) ((mix l t).getD t 0) = mix l (t + 1) := by
  have g (m : List Int) (i j : Nat) (x : Int) (hi : i < m.length) (hj : j < m.length) : (m.set i x).getD j 0 = if j = i then x else m.getD j 0 := by
    rw [List.getD_eq_getElem?_getD, List.getElem?_set, List.getD_eq_getElem?_getD]
    by_cases he : i = j
    · subst he; simp [hi]
    · rw [if_neg he, if_neg (Ne.symm he)]
  refine getD_ext (by simp [mix_length]) fun j hj => ?_
  simp only [List.length_set, mix_length] at hj
  rw [g _ _ _ _ (by simp [mix_length]; omega) (by simp [mix_length]; omega), g _ _ _ _ (by rw [mix_length]; omega) (by rw [mix_length]; omega), mix_get l (t + 1) j hj]
  by_cases h1 : j = l.length - 1 - t
  · rw [if_pos h1, if_pos (by omega), mix_get l t t (by omega), if_neg (by omega), show l.length - 1 - j = t by omega]
  · rw [if_neg h1]
    by_cases h2 : j = t
    · rw [if_pos h2, if_pos (by omega), mix_get l t _ (by omega), if_neg (by omega), h2]
    · rw [if_neg h2, mix_get l t j hj]
      by_cases h3 : j < t ∨ l.length ≤ j + t
      · rw [if_pos h3, if_pos (by omega)]
      · rw [if_neg h3, if_neg (by omega)]
set_option maxRecDepth 100000 in
set_option maxHeartbeats 4000000 in
theorem reverse_c (w : World) (F : Nat → Prop) (v : Value) (l : List Int) (h : Row w F 3 1 v l.length (nums l)) (hl : l.length ≤ 1000000) :
    Calls Try.prog 21 #[v] w fun e w' => e = .returned (.tuple #[]) ∧ Row w' F 3 1 v l.length (nums l.reverse) ∧ Only F w w' := by
  obtain ⟨A, cap, rfl, hcap⟩ := h.shape
  have H : Hid (Row w F 3 1 (.slice A l.length cap) l.length (nums (mix l 0))) := by rw [mix_zero]; exact h
  obtain ⟨n, hn⟩ : ∃ n, n = l.length := ⟨_, rfl⟩
  have HN := Lib.hid hn
  rw [← hn] at hcap hl H ⊢
  clear h hn
  go_enter Try.func21, Try.ntmps21
  go_wp2
  go_loopw [2, 3] (fun i j wr => ∃ t : Nat, 2 * t ≤ n + 1 ∧ i = .int .i64 (t : Int) ∧ j = .int .i64 ((n : Int) - 1 - (t : Int)) ∧ Hid (Row wr F 3 1 (.slice A n cap) n (nums (mix l t))) ∧ Hid (Only F w wr)) (fun i _ _ => n - (intOf i).toNat)
  case atStart => exact ⟨0, by omega, rfl, by simp, H, Only.refl _ _⟩
  case round =>
    obtain ⟨t, ht, rfl, rfl, HR, HO⟩ := hrel
    by_cases htn : 2 * t + 1 < n
    · obtain ⟨g, cap', hA, hFg, _, _⟩ := HR.out.form (by omega)
      injection hA with hA1 hA2 hA3
      subst hA1
      subst hA3
      have hj : (n : Int) - 1 - (t : Int) = ((n - 1 - t : Nat) : Int) := by omega
      have c1 := HR.out.cell (i := t) (nums_get (mix l t) t (by rw [mix_length]; have := HN.out; omega))
      have c2 := HR.out.cell (i := n - 1 - t) (nums_get (mix l t) (n - 1 - t) (by rw [mix_length]; have := HN.out; omega))
      have f1 := HR.out.frozen t
      have f2 := HR.out.frozen (n - 1 - t)
      have hlt : ((t : Int)) < ((n - 1 - t : Nat) : Int) := by omega
      have hne : t ≠ n - 1 - t := by omega
      have K : Hid (∀ x y : Int, x = (mix l t).getD t 0 → y = (mix l t).getD (n - 1 - t) 0 → Row ((wr.setCell ⟨g, t, none⟩ (.int .i64 y)).setCell ⟨g, n - 1 - t, none⟩ (.int .i64 x)) F 3 1 (.slice (some ⟨g, 0, none⟩) n cap) n (nums (mix l (t + 1))) ∧ Only F w ((wr.setCell ⟨g, t, none⟩ (.int .i64 y)).setCell ⟨g, n - 1 - t, none⟩ (.int .i64 x))) := by
        rintro x y rfl rfl
        have h1 := ((HR.out).stored t (.int .i64 ((mix l t).getD (n - 1 - t) 0))).stored (n - 1 - t) (.int .i64 ((mix l t).getD t 0))
        have hm := mix_step l t (by have := HN.out; omega)
        rw [← HN.out] at hm
        rw [nums_set, nums_set, hm] at h1
        exact ⟨h1, (HO.out.setCell (p := ⟨g, t, none⟩) (.inl hFg) _).setCell (p := ⟨g, _, none⟩) (.inl hFg) _⟩
      rw [hj]
      clear HR HO H
      have KK := Lib.hid (K.out _ _ rfl rfl)
      clear K
      generalize (mix l t).getD t 0 = x at *
      generalize (mix l t).getD (n - 1 - t) 0 = y at *
      obtain ⟨jj, hjj, hj1, hlt2⟩ : ∃ jj, n - 1 - t = jj ∧ jj < n ∧ t < jj := ⟨_, rfl, by omega, by omega⟩
      have htj : (t : Int) < (jj : Int) := by omega
      have htn' : t < n := by omega
      have hnj : ((n : Int) - 1 - ((t + 1 : Nat) : Int)) = (jj : Int) - 1 := by omega
      rw [hjj] at c2 f2 hne KK ⊢
      clear hjj hlt hj
      go_wp2_with fail
      go_region
      all_goals go_wp2_with fail
      all_goals
        go_roundw
        case rel => exact ⟨t + 1, by omega, by go_num, by rw [hnj]; try go_num, KK.out.1, KK.out.2.drew⟩
        case measure => simp [intOf]; omega
    · have E1 : Hid (Row wr F 3 1 (.slice A n cap) n (nums l.reverse)) := by
        have := HR.out
        rw [mix_done l t (by have := HN.out; omega)] at this
        exact this
      clear HR H
      go_wp2_with fail
      go_end0
      exact ⟨rfl, E1.out, HO.out⟩
end Go.Proofs.Ytdpeckfdilpidaa
