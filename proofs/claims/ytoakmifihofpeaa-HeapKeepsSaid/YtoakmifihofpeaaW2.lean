/- The walks of the document's own heap: where a block is found, how long it is, its words read. -/
import Derived.Test.YtoakmifihofpeaaW1
import Derived.Test.YtoakmifihofpeaaRef
set_option linter.unusedVariables false
set_option linter.unusedSimpArgs false
namespace Go.Proofs.Ytoakmifihofpeaa
open Go.RowKit
theorem rnew_c (w : World) : Calls Try.prog 20 #[] w fun e w' => e = .returned (.pointer (some ⟨w.heap.size, 0, none⟩)) ∧ RHeapAt w' (fun b => w.heap.size ≤ b) w.heap.size RH.empty ∧ Below w.heap.size w w' := by
  go_enter Try.func20, Try.ntmps20
  go_wp2
  go_ret
  refine ⟨rfl, ⟨.slice none 0 0, fun _ _ => .slice none 0 0, Blk.new _ _ _, Nat.le_refl _, Row.nil_ _ _ _ _, fun k hk => absurd hk (Nat.not_lt_zero _), fun k j k' j' hk => absurd hk (Nat.not_lt_zero _)⟩, (Below.refl _ _).alloc (Nat.le_refl _) _⟩
def Sorted (r : RH) : Prop := ∀ k k', k < k' → k' < r.N → r.ad k < r.ad k'
def IsFind (r : RH) (a z : Int) : Prop := (∃ k : Nat, z = k ∧ k < r.N ∧ r.ad k = a) ∨ (z = -1 ∧ ∀ k, k < r.N → r.ad k ≠ a)
def FindPost (r : RH) (a : Int) (w : World) (e : Ending) (w' : World) : Prop := ∃ z, e = .returned (.int .i64 z) ∧ IsFind r a z ∧ w = w'
theorem find_c (w : World) (F : Nat → Prop) (g : Nat) (r : RH) (a : Int) (h : RHeapAt w F g r) (hs : Sorted r) (hN : r.N ≤ 1000000) :
    Calls Try.prog 28 #[.pointer (some ⟨g, 0, none⟩), .int .i64 a] w (FindPost r a w) := by
  obtain ⟨v, V, hr⟩ := h
  rcases Nat.eq_zero_or_pos r.N with h0 | hp
  · obtain ⟨A, cap, rfl, _⟩ := hr.row.shape
    have c0 : w.cell? ⟨g, 0, none⟩ = some (.slice A 0 cap) := by rw [hr.blk.cell 0, h0]; rfl
    have E := Lib.hid (show FindPost r a w (.returned (.int .i64 (-1))) w from ⟨-1, rfl, .inr ⟨rfl, fun k hk => by omega⟩, rfl⟩)
    clear hr hs hN h0
    go_enter Try.func28, Try.ntmps28
    go_wp2
    go_loop [5, 6] (fun x y => x = .int .i64 0 ∧ y = .int .i64 0) (fun _ _ => 0)
    case atStart => exact ⟨rfl, rfl⟩
    case round =>
      obtain ⟨rfl, rfl⟩ := hrel
      go_wp2
      go_ret
      exact E.out
  · obtain ⟨vb, cap, rfl, _, _, hcap⟩ := hr.row.form hp
    have c0 : w.cell? ⟨g, 0, none⟩ = some (.slice (some ⟨vb, 0, none⟩) r.N cap) := hr.blk.cell 0
    have HA := Lib.hid (fun k (hk : k < r.N) => hr.ad_cell hk)
    have HS := Lib.hid hs
    clear hs hr
    obtain ⟨n, hn⟩ : ∃ n, n = r.N := ⟨_, rfl⟩
    rw [← hn] at c0 hN hp
    have HN := Lib.hid hn
    clear hn
    go_enter Try.func28, Try.ntmps28
    go_wp2
    go_loop [5, 6] (fun x y => ∃ lo hi : Nat, lo ≤ hi ∧ hi ≤ n ∧ x = .int .i64 lo ∧ y = .int .i64 hi ∧ Hid (∀ k, k < lo → r.ad k < a) ∧ Hid (∀ k, hi ≤ k → k < n → a ≤ r.ad k)) (fun x y => ((intOf y) - (intOf x)).toNat)
    case atStart => exact ⟨0, n, by omega, by omega, rfl, rfl, fun k hk => by omega, fun k hk hk' => by omega⟩
    case round =>
      obtain ⟨lo, hi, h1, h2, rfl, rfl, H3, H4⟩ := hrel
      by_cases hlt : lo < hi
      · have hm : (lo + hi) / 2 < n := by omega
        have hm1 : lo ≤ (lo + hi) / 2 := by omega
        have hm2 : (lo + hi) / 2 < hi := by omega
        have ca := HA.out ((lo + hi) / 2) (by rw [← HN.out]; exact hm)
        by_cases hc : r.ad ((lo + hi) / 2) < a
        · go_wp2
          go_round
          case rel =>
            refine ⟨(lo + hi) / 2 + 1, hi, by omega, h2, by go_num, rfl, fun k hk => ?_, H4⟩
            rcases Nat.lt_or_ge k ((lo + hi) / 2) with h5 | h5
            · have := HS.out k ((lo + hi) / 2) h5 (by rw [← HN.out]; exact hm); omega
            · obtain rfl : k = (lo + hi) / 2 := by omega
              exact hc
          case measure => simp [intOf]; omega
        · go_wp2
          go_round
          case rel =>
            refine ⟨lo, (lo + hi) / 2, by omega, by omega, rfl, by go_num, H3, fun k hk hk' => ?_⟩
            rcases Nat.lt_or_ge ((lo + hi) / 2) k with h5 | h5
            · have := HS.out ((lo + hi) / 2) k h5 (by rw [← HN.out]; exact hk'); omega
            · obtain rfl : k = (lo + hi) / 2 := by omega
              omega
          case measure => simp [intOf]; omega
      · obtain rfl : lo = hi := by omega
        by_cases hl : lo < n
        · have ca := HA.out lo (by rw [← HN.out]; exact hl)
          by_cases he : r.ad lo = a
          · have E := Lib.hid (show FindPost r a w (.returned (.int .i64 lo)) w from ⟨lo, rfl, .inl ⟨lo, rfl, by rw [← HN.out]; exact hl, he⟩, rfl⟩)
            have he' : (r.ad lo == a) = true := beq_iff_eq.2 he
            clear he H3 H4
            go_wp2
            go_ret
            exact E.out
          · have E := Lib.hid (show FindPost r a w (.returned (.int .i64 (-1))) w from ⟨-1, rfl, .inr ⟨rfl, fun k hk => by
              rw [← HN.out] at hk
              rcases Nat.lt_trichotomy k lo with h5 | h5 | h5
              · have := H3.out k h5; omega
              · rw [h5]; exact he
              · have := H4.out lo (Nat.le_refl _) hl; have := HS.out lo k h5 (by rw [← HN.out]; exact hk); omega⟩, rfl⟩)
            have he' : (r.ad lo == a) = false := beq_eq_false_iff_ne.2 he
            clear he H3 H4
            go_wp2
            go_ret
            exact E.out
        · have E := Lib.hid (show FindPost r a w (.returned (.int .i64 (-1))) w from ⟨-1, rfl, .inr ⟨rfl, fun k hk => by
            rw [← HN.out] at hk
            have := H3.out k (by omega); omega⟩, rfl⟩)
          clear H3 H4
          go_wp2
          go_ret
          exact E.out
theorem rwords_c (w : World) (F : Nat → Prop) (g : Nat) (r : RH) (h : RHeapAt w F g r) : Calls Try.prog 26 #[.pointer (some ⟨g, 0, none⟩)] w fun e w' => e = .returned (.int .i64 r.tk) ∧ w = w' := by
  obtain ⟨v, V, hr⟩ := h
  have c1 : w.cell? ⟨g, 1, none⟩ = some (.int .i64 r.tk) := hr.blk.cell 1
  clear hr
  go_enter Try.func26, Try.ntmps26
  go_wp2
  go_ret
  exact ⟨rfl, rfl⟩
/-- Len: what is answered, by where the block was found. -/
def RLenPost (r : RH) (a : Int) (w : World) (e : Ending) (w' : World) : Prop :=
  w = w' ∧ ((a = 0 ∧ e = .returned (.tuple #[.int .i64 0, .bool true])) ∨
    (a ≠ 0 ∧ ((∃ k, k < r.N ∧ r.ad k = a ∧ e = .returned (.tuple #[.int .i64 (r.nn k), .bool true])) ∨ ((∀ k, k < r.N → r.ad k ≠ a) ∧ e = .returned (.tuple #[.int .i64 0, .bool false])))))
theorem rlen_c (w : World) (F : Nat → Prop) (g : Nat) (r : RH) (a : Int) (h : RHeapAt w F g r) (hs : Sorted r) (hN : r.N ≤ 1000000) :
    Calls Try.prog 24 #[.pointer (some ⟨g, 0, none⟩), .int .i64 a] w (RLenPost r a w) := by
  by_cases h0 : a = 0
  · subst h0
    have E := Lib.hid (show RLenPost r 0 w (.returned (.tuple #[.int .i64 0, .bool true])) w from ⟨rfl, .inl ⟨rfl, rfl⟩⟩)
    go_enter Try.func24, Try.ntmps24
    go_wp2
    go_ret2
    exact E.out
  · have h0' : (a == 0) = false := beq_eq_false_iff_ne.2 h0
    have FC := Lib.hid (find_c w F g r a h hs hN)
    go_enter Try.func24, Try.ntmps24
    go_wp2_with fail
    refine FC.out.mono ?_
    rintro e w' ⟨z, rfl, hz, rfl⟩
    rcases hz with ⟨k, rfl, hk, hka⟩ | ⟨rfl, hno⟩
    · obtain ⟨v, V, hr⟩ := h
      obtain ⟨vb, cap, rfl, _, _, hcap⟩ := hr.row.form (by omega)
      have c0 : w.cell? ⟨g, 0, none⟩ = some (.slice (some ⟨vb, 0, none⟩) r.N cap) := hr.blk.cell 0
      have cn := hr.nn_cell hk
      have E := Lib.hid (show RLenPost r a w (.returned (.tuple #[.int .i64 (r.nn k), .bool true])) w from ⟨rfl, .inr ⟨h0, .inl ⟨k, hk, hka, rfl⟩⟩⟩)
      clear hr hka hs
      go_wp2_with fail
      go_ret2
      exact E.out
    · have E := Lib.hid (show RLenPost r a w (.returned (.tuple #[.int .i64 0, .bool false])) w from ⟨rfl, .inr ⟨h0, .inr ⟨hno, rfl⟩⟩⟩)
      clear hno hs h
      go_wp2_with fail
      go_ret2
      exact E.out
end Go.Proofs.Ytoakmifihofpeaa
