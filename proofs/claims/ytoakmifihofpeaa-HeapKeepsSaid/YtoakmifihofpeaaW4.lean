/- The walk of the document's own heap: a word read. -/
import Derived.Test.YtoakmifihofpeaaW3
set_option linter.unusedVariables false
set_option linter.unusedSimpArgs false
namespace Go.Proofs.Ytoakmifihofpeaa
open Go.RowKit
/-- The first of these places that is i: what stands there. -/
def flook : List Int → List Int → Int → Int
  | x :: at_, y :: far, i => if x = i then y else flook at_ far i
  | _, _, _ => 0
theorem flook_hit : ∀ (at_ far : List Int) (i : Int) (t : Nat), t < at_.length → at_.length = far.length → (∀ s, s < t → at_.getD s 0 ≠ i) → at_.getD t 0 = i → flook at_ far i = far.getD t 0
  | [], _, _, _, h, _, _, _ => by simp at h
  | _ :: _, [], _, _, _, h, _, _ => by simp at h
  | x :: at_, y :: far, i, 0, _, _, _, h => by simp at h; simp [flook, h]
  | x :: at_, y :: far, i, t + 1, h, hl, hs, ht => by
    have h0 : x ≠ i := by have := hs 0 (by omega); simpa using this
    simp only [flook, if_neg h0]
    rw [flook_hit at_ far i t (by simpa using h) (by simpa using hl) (fun s hs' => by have := hs (s + 1) (by omega); simpa using this) (by simpa using ht)]
    simp
theorem flook_miss : ∀ (at_ far : List Int) (i : Int), (∀ s, s < at_.length → at_.getD s 0 ≠ i) → flook at_ far i = 0
  | [], _, _, _ => by simp [flook]
  | _ :: _, [], _, _ => by simp [flook]
  | x :: at_, y :: far, i, h => by
    have h0 : x ≠ i := by have := h 0 (by simp); simpa using this
    simp only [flook, if_neg h0]
    exact flook_miss at_ far i (fun s hs => by have := h (s + 1) (by simp; omega); simpa using this)
def RH.word (r : RH) (k : Nat) (i : Int) : Int := if i < 4096 then (r.X k 0).getD i.toNat 0 else flook (r.X k 1) (r.X k 2) i
structure RValid (r : RH) : Prop where
  near : ∀ k, k < r.N → (r.X k 0).length ≤ 4096
  far : ∀ k, k < r.N → (r.X k 1).length = (r.X k 2).length
def RGetPost (r : RH) (a i : Int) (w : World) (e : Ending) (w' : World) : Prop :=
  w = w' ∧ ((∃ k, k < r.N ∧ r.ad k = a ∧ 0 ≤ i ∧ i < r.nn k ∧ e = .returned (.tuple #[.int .i64 (r.word k i), .bool true])) ∨
    ((∀ k, k < r.N → r.ad k = a → ¬ (0 ≤ i ∧ i < r.nn k)) ∧ e = .returned (.tuple #[.int .i64 0, .bool false])))
set_option maxHeartbeats 4000000 in
set_option maxRecDepth 100000 in
theorem rget_c (w : World) (F : Nat → Prop) (g : Nat) (r : RH) (a i : Int) (h : RHeapAt w F g r) (hs : Sorted r) (hv : RValid r) (hN : r.N ≤ 1000000) (hb : ∀ k, k < r.N → (r.X k 1).length ≤ 1000000) :
    Calls Try.prog 25 #[.pointer (some ⟨g, 0, none⟩), .int .i64 a, .int .i64 i] w (RGetPost r a i w) := by
  have FC := Lib.hid (find_c w F g r a h hs hN)
  go_enter Try.func25, Try.ntmps25
  go_wp2_with fail
  refine FC.out.mono ?_
  rintro e w' ⟨z, rfl, hz, rfl⟩
  rcases hz with ⟨k, rfl, hk, hka⟩ | ⟨rfl, hno⟩
  · have NO (hn : ¬ (0 ≤ i ∧ i < r.nn k)) : RGetPost r a i w (.returned (.tuple #[.int .i64 0, .bool false])) w := ⟨rfl, .inr ⟨fun k' hk' hka' => by
      have : k' = k := by
        rcases Nat.lt_trichotomy k' k with h1 | h1 | h1
        · have := hs k' k h1 hk; omega
        · exact h1
        · have := hs k k' h1 hk'; omega
      rw [this]; exact hn, rfl⟩⟩
    have YES (x : Int) (h0 : 0 ≤ i) (h1 : i < r.nn k) (hx : r.word k i = x) : RGetPost r a i w (.returned (.tuple #[.int .i64 x, .bool true])) w := ⟨rfl, .inl ⟨k, hk, hka, h0, h1, by rw [hx]⟩⟩
    have HNO := Lib.hid NO
    have HYES := Lib.hid YES
    clear NO YES hka
    obtain ⟨v, V, hr⟩ := h
    obtain ⟨vb, cap, rfl, _, _, hcap⟩ := hr.row.form (by omega)
    have c0 : w.cell? ⟨g, 0, none⟩ = some (.slice (some ⟨vb, 0, none⟩) r.N cap) := hr.blk.cell 0
    have cn := hr.nn_cell hk
    have cv0 : w.cell? ⟨vb, k * 5 + 2, none⟩ = some (V k 0) := hr.V_cell (j := 0) hk (by omega)
    have cv1 : w.cell? ⟨vb, k * 5 + 3, none⟩ = some (V k 1) := hr.V_cell (j := 1) hk (by omega)
    have cv2 : w.cell? ⟨vb, k * 5 + 4, none⟩ = some (V k 2) := hr.V_cell (j := 2) hk (by omega)
    have R0 := hr.rows k hk 0 (by omega)
    have R1 := hr.rows k hk 1 (by omega)
    have R2 := hr.rows k hk 2 (by omega)
    have hfar := hv.far k hk
    have hb1 := hb k hk
    have hnear := hv.near k hk
    have WD : r.word k i = if i < 4096 then (r.X k 0).getD i.toNat 0 else flook (r.X k 1) (r.X k 2) i := rfl
    generalize r.nn k = m at *
    generalize r.X k 0 = L0 at *
    generalize r.X k 1 = L1 at *
    generalize r.X k 2 = L2 at *
    generalize V k 0 = V0 at *
    generalize V k 1 = V1 at *
    generalize V k 2 = V2 at *
    have HWD := Lib.hid WD
    clear WD hr hs hv hb
    by_cases hi0 : i < 0
    · have E := Lib.hid (HNO.out (by omega))
      clear HNO HYES R0 R1 R2
      go_wp2_with fail
      go_ret2
      exact E.out
    · by_cases hi1 : m ≤ i
      · have E := Lib.hid (HNO.out (by omega))
        clear HNO HYES R0 R1 R2
        go_wp2_with fail
        go_ret2
        exact E.out
      · by_cases hn : i < 4096
        · obtain ⟨A0, cap0, rfl, hcap0⟩ := R0.shape
          obtain ⟨ii, rfl⟩ := Int.eq_ofNat_of_zero_le (show 0 ≤ i by omega)
          by_cases hl : ii < L0.length
          · obtain ⟨nb, nc, hnb, _⟩ := R0.form (by omega)
            injection hnb with hA hc1 hc2
            subst hA
            have E := Lib.hid (HYES.out (L0.getD ii 0) (by omega) (by omega) (by rw [HWD.out, if_pos hn]; simp))
            have cx : w.cell? ⟨nb, ii, none⟩ = some (.int .i64 (L0.getD ii 0)) := R0.cell (nums_get L0 ii hl)
            obtain ⟨n0, hn0⟩ : ∃ n0, L0.length = n0 := ⟨_, rfl⟩
            generalize L0.getD ii 0 = x at *
            rw [hn0] at cv0 hl hcap0 hnear
            clear HNO HYES R0 R1 R2 hn0 hc1 hc2 HWD
            go_wp2_with fail
            go_ret2
            exact E.out
          · have E := Lib.hid (HYES.out 0 (by omega) (by omega) (by rw [HWD.out, if_pos hn]; simp [List.getD_eq_getElem?_getD, List.getElem?_eq_none (show L0.length ≤ ii by omega)]))
            obtain ⟨n0, hn0⟩ : ∃ n0, L0.length = n0 := ⟨_, rfl⟩
            rw [hn0] at cv0 hl hcap0 hnear
            clear HNO HYES R0 R1 R2 hn0 HWD
            go_wp2_with fail
            go_ret2
            exact E.out
        · rcases Nat.eq_zero_or_pos L1.length with hz | hp
          · obtain ⟨A1, cap1, rfl, hcap1⟩ := R1.shape
            have E := Lib.hid (HYES.out 0 (by omega) (by omega) (by rw [HWD.out, if_neg (show ¬ i < 4096 by omega)]; exact flook_miss _ _ _ (fun s hs => by omega)))
            rw [hz] at cv1 hcap1
            clear HNO HYES R0 R1 R2 hz HWD hfar
            go_wp2_with fail
            go_loop [9] (fun x => x = .int .i64 0) (fun _ => 0)
            case atStart => rfl
            case round =>
              subst hrel
              go_wp2_with fail
              go_ret2
              exact E.out
          · obtain ⟨ab, ac, rfl, _, _, hac⟩ := R1.form hp
            obtain ⟨fb, fc, rfl, _, _, hfc⟩ := R2.form (by omega)
            have A1 := Lib.hid (fun t (ht : t < L1.length) => R1.cell (nums_get L1 t ht))
            have A2 := Lib.hid (fun t (ht : t < L1.length) => R2.cell (nums_get L2 t (by omega)))
            rw [← hfar] at cv2 hfc
            have HF := Lib.hid hfar
            obtain ⟨n1, hn1⟩ : ∃ n1, n1 = L1.length := ⟨_, rfl⟩
            rw [← hn1] at cv1 cv2 hac hfc hp hb1
            have HN1 := Lib.hid hn1
            clear HNO R0 R1 R2 hfar hn1
            go_wp2_with fail
            go_loop [9] (fun x => ∃ t : Nat, t ≤ n1 ∧ x = .int .i64 t ∧ Hid (∀ s, s < t → L1.getD s 0 ≠ i)) (fun x => n1 - (intOf x).toNat)
            case atStart => exact ⟨0, by omega, rfl, fun s hs => by omega⟩
            case round =>
              obtain ⟨t, ht, rfl, HS⟩ := hrel
              by_cases hlt : t < n1
              · have ca := A1.out t (by rw [← HN1.out]; exact hlt)
                have cf := A2.out t (by rw [← HN1.out]; exact hlt)
                by_cases he : L1.getD t 0 = i
                · have E := Lib.hid (HYES.out (L2.getD t 0) (by omega) (by omega) (by rw [HWD.out, if_neg (show ¬ i < 4096 by omega)]; exact flook_hit _ _ _ t (by rw [← HN1.out]; exact hlt) HF.out HS.out he))
                  have he' : (L1.getD t 0 == i) = true := beq_iff_eq.2 he
                  clear HYES HWD HS he
                  generalize L1.getD t 0 = y at *
                  generalize L2.getD t 0 = y2 at *
                  go_wp2_with fail
                  go_ret2
                  exact E.out
                · have he' : (L1.getD t 0 == i) = false := beq_eq_false_iff_ne.2 he
                  have HS2 := Lib.hid (show ∀ s, s < t + 1 → L1.getD s 0 ≠ i from fun s hs => by
                    rcases Nat.lt_or_ge s t with h5 | h5
                    · exact HS.out s h5
                    · obtain rfl : s = t := by omega
                      exact he)
                  clear HS he
                  generalize hy : L1.getD t 0 = y at *
                  clear hy
                  go_wp2_with fail
                  go_round
                  case rel => exact ⟨t + 1, by omega, by go_num, HS2.out⟩
                  case measure => simp [intOf]; omega
              · have E := Lib.hid (HYES.out 0 (by omega) (by omega) (by rw [HWD.out, if_neg (show ¬ i < 4096 by omega)]; exact flook_miss _ _ _ (fun s hs => HS.out s (by have := HN1.out; omega))))
                clear HYES HWD HS
                go_wp2_with fail
                go_ret2
                exact E.out
  · have E := Lib.hid (show RGetPost r a i w (.returned (.tuple #[.int .i64 0, .bool false])) w from ⟨rfl, .inr ⟨fun k hk hka => absurd hka (hno k hk), rfl⟩⟩)
    clear hno hs h hv
    go_wp2_with fail
    go_ret2
    exact E.out
end Go.Proofs.Ytoakmifihofpeaa
