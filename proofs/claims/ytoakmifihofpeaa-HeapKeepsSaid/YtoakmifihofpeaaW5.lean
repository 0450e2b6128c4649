/- The walk of the document's own heap: a word set. -/
import Derived.Test.YtoakmifihofpeaaW4
import Derived.Deep.RegionHeld3
import Derived.Deep.RegionLaw
import Derived.Deep.LoopGhost
import Derived.Deep.DrawnRows
set_option linter.unusedVariables false
set_option linter.unusedSimpArgs false
namespace Go.Proofs.Ytoakmifihofpeaa
open Go.RowKit
attribute [local go_sem ↓] Go.wp_at_zero Go.wp_at_succ
/-- The near words, grown by noughts. -/
def RH.padded (r : RH) (k m : Nat) : RH := r.setX k 0 (r.X k 0 ++ List.replicate m 0)
theorem padded_zero (r : RH) (k : Nat) : r.padded k 0 = r := by
  unfold RH.padded RH.setX
  have : upd2 r.X k 0 (r.X k 0 ++ List.replicate 0 0) = r.X := by
    funext a b
    by_cases h : a = k ∧ b = 0
    · obtain ⟨rfl, rfl⟩ := h; rw [upd2_same]; simp
    · rw [upd2_other _ _ _ _ h]
  rw [this]
theorem padded_succ (r : RH) (k m : Nat) : (r.padded k m).setX k 0 ((r.padded k m).X k 0 ++ [0]) = r.padded k (m + 1) := by
  unfold RH.padded RH.setX
  simp only [upd2_same]
  congr 1
  funext a b
  by_cases h : a = k ∧ b = 0
  · obtain ⟨rfl, rfl⟩ := h; simp only [upd2_same]; rw [List.replicate_succ', List.append_assoc]
  · rw [upd2_other _ _ _ _ h, upd2_other _ _ _ _ h, upd2_other _ _ _ _ h]
theorem padded_X (r : RH) (k m : Nat) : (r.padded k m).X k 0 = r.X k 0 ++ List.replicate m 0 := by unfold RH.padded RH.setX; simp only [upd2_same]
/-- The near words with the i-th set. -/
def RH.setNear (r : RH) (k i : Nat) (x : Int) : RH := r.setX k 0 ((r.X k 0 ++ List.replicate (i + 1 - (r.X k 0).length) 0).set i x)
theorem setNear_is (r : RH) (k i m : Nat) (x : Int) (h : m = i + 1 - (r.X k 0).length) : (r.padded k m).setX k 0 (((r.padded k m).X k 0).set i x) = r.setNear k i x := by
  subst h
  unfold RH.setNear RH.padded RH.setX
  simp only [upd2_same]
  congr 1
  funext a b
  by_cases h : a = k ∧ b = 0
  · obtain ⟨rfl, rfl⟩ := h; simp only [upd2_same]
  · rw [upd2_other _ _ _ _ h, upd2_other _ _ _ _ h, upd2_other _ _ _ _ h]
theorem padded_N (r : RH) (k m : Nat) : (r.padded k m).N = r.N := rfl
set_option maxHeartbeats 8000000 in
set_option maxRecDepth 100000 in
theorem rset_near (w : World) (F : Nat → Prop) (g : Nat) (r : RH) (a i x : Int) (h : RHeapAt w F g r) (hs : Sorted r) (hN : r.N ≤ 1000000) (k : Nat) (hk : k < r.N) (hka : r.ad k = a) (hi0 : 0 ≤ i) (hi1 : i < r.nn k) (hn : i < 4096) (hl : (r.X k 0).length ≤ 4096) :
    Calls Try.prog 23 #[.pointer (some ⟨g, 0, none⟩), .int .i64 a, .int .i64 i, .int .i64 x] w fun e w' => e = .returned (.bool true) ∧ RHeapAt w' (fun b => F b ∨ w.heap.size ≤ b) g (r.setNear k i.toNat x) ∧ Only F w w' := by
  have FC := Lib.hid (find_c w F g r a h hs hN)
  obtain ⟨i0, hI, hz0, hz1, hz2⟩ := info_parts info3
  have HI := Lib.hid hI
  have HZ0 := Lib.hid hz0
  have HZ1 := Lib.hid hz1
  have HZ2 := Lib.hid hz2
  clear hI hz0 hz1 hz2
  go_enter Try.func23, Try.ntmps23
  go_wp2_with fail
  refine FC.out.mono ?_
  rintro e w' ⟨z, rfl, hz, rfl⟩
  obtain rfl : z = (k : Int) := by
    rcases hz with ⟨k', rfl, hk', hka'⟩ | ⟨rfl, hno⟩
    · rcases Nat.lt_trichotomy k' k with h1 | h1 | h1
      · have := hs k' k h1 hk; omega
      · rw [h1]
      · have := hs k k' h1 hk'; omega
    · exact absurd hka (hno k hk)
  clear hz FC hka hs
  obtain ⟨v, V, hr⟩ := h
  obtain ⟨vb, cap, rfl, hFv, _, hcap⟩ := hr.row.form (by omega)
  have c0 : w.cell? ⟨g, 0, none⟩ = some (.slice (some ⟨vb, 0, none⟩) r.N cap) := hr.blk.cell 0
  have cn := hr.nn_cell hk
  have HR := Lib.hid hr
  clear hr
  go_wp2_with fail
  go_loopg [] (i.toNat + 1 - (r.X k 0).length) (fun gk wr => ∃ (m : Nat) (V' : Nat → Nat → Value), (r.X k 0).length + m + gk ≤ 4096 ∧ (r.X k 0).length + m + gk = max (i.toNat + 1) (r.X k 0).length ∧ Hid (RP wr (fun b => F b ∨ w.heap.size ≤ b) g (r.padded k m) (.slice (some ⟨vb, 0, none⟩) r.N cap) V') ∧ Hid (Only F w wr))
  case atStart => exact ⟨0, V, by omega, by omega, by rw [padded_zero]; exact HR.out.more fun b _ hb => .inl hb, Only.refl _ _⟩
  case round =>
    obtain ⟨m, V', h1, h2, H3, H4⟩ := hrel
    have d0 : wr.cell? ⟨g, 0, none⟩ = some (.slice (some ⟨vb, 0, none⟩) r.N cap) := H3.out.blk.cell 0
    have dV : wr.cell? ⟨vb, k * 5 + 2, none⟩ = some (V' k 0) := H3.out.V_cell (j := 0) hk (by omega)
    have rr := H3.out.rows k hk 0 (by omega)
    have hlen : ((r.padded k m).X k 0).length = (r.X k 0).length + m := by rw [padded_X]; simp
    obtain ⟨Xl, hXl⟩ : ∃ Xl, Xl = (r.padded k m).X k 0 := ⟨_, rfl⟩
    rw [← hXl] at rr hlen
    obtain ⟨L, hL⟩ : ∃ L, L = Xl.length := ⟨_, rfl⟩
    rw [← hL] at rr hlen
    obtain ⟨A0, cap0, hV, hcap0⟩ := rr.shape
    rw [hV] at dV rr
    have HV := Lib.hid hV
    have HXL := Lib.hid hXl
    have HL := Lib.hid hL
    have RR := Lib.hid rr
    have hl1 : (r.X k 0).length + m ≤ L := by omega
    have hl2 : L ≤ (r.X k 0).length + m := by omega
    clear hV hXl hL rr hlen
    by_cases hc : (L : Int) ≤ i
    · clear c0 cn
      go_wp2_with fail
      have HB : Hid (Blk wr g 58 #[.slice (some ⟨vb, 0, none⟩) r.N cap, .int .i64 r.tk]) := H3.out.blk
      have hgl : g < wr.heap.size := H3.out.blk.lt
      have hvl : vb < wr.heap.size := H3.out.row.lt rfl
      have hk0 : (0 : Int) ≤ (k : Int) := Int.natCast_nonneg _
      have hk1 : (k : Int) < (r.N : Int) := by omega
      have AG : Hid ((Value.slice A0 L cap0).ownBlock ≠ some g) := own_blk_ne RR.out.1 H3.out.blk (by decide)
      have AV : Hid ((Value.slice A0 L cap0).ownBlock ≠ some vb) := by
        rcases RR.out.ne_type H3.out.row (by decide) with e | e
        · show (Value.slice A0 L cap0).ownBlock ≠ some vb
          rw [e]; simp
        · exact e
      have FV : wr.frozen? ⟨vb, k * 5 + 2, none⟩ = false := H3.out.row.frozen _
      have NE := World.new_ne wr _ dV
      have NE2 := World.new_ne wr _ d0
      have STEP : Hid (∀ (gg cap1 : Nat) (w1 : World), w1.ownsRow 0 3 1 (.slice (some ⟨gg, 0, none⟩) (L + 1) cap1) (L + 1) (nums Xl ++ [.int .i64 0]) → (wr.alloc (.cells #[.int .i64 0] 3)).drew.grownBy w1 (Value.slice A0 L cap0).ownBlock →
          ((Value.slice A0 L cap0).ownBlock = some gg ∨ gg = wr.heap.size + 1) →
          ∃ (m' : Nat) (V' : Nat → Nat → Value), (r.X k 0).length + m' + (gk - 1) ≤ 4096 ∧ (r.X k 0).length + m' + (gk - 1) = max (i.toNat + 1) (r.X k 0).length ∧ Hid (RP (w1.setCell ⟨vb, k * 5 + 2, none⟩ (.slice (some ⟨gg, 0, none⟩) (L + 1) cap1)) (fun b => F b ∨ w.heap.size ≤ b) g (r.padded k m') (.slice (some ⟨vb, 0, none⟩) r.N cap) V') ∧ Hid (Only F w (w1.setCell ⟨vb, k * 5 + 2, none⟩ (.slice (some ⟨gg, 0, none⟩) (L + 1) cap1)))) := by
        intro gg cap1 w1 hown hg hat
        have hw : wr.heap.size ≤ (wr.alloc (.cells #[.int .i64 0] 3)).drew.heap.size := by
          show _ ≤ (wr.alloc (.cells #[.int .i64 0] 3)).heap.size
          simp
        have K := ((H3.out.alloc (.cells #[.int .i64 0] 3)).drew).appended (k := k) (j := 0) (x := 0) (v1 := .slice (some ⟨gg, 0, none⟩) (L + 1) cap1) (w1 := w1) hk (by omega)
          (by rw [← HXL.out, ← HL.out]; exact hown) (by rw [HV.out]; exact hg) (H := wr.heap.size + 1) (by
            rcases hat with e | e
            · left; rw [HV.out, e]; rfl
            · right; rw [e]; rfl) (by show (wr.alloc (.cells #[.int .i64 0] 3)).heap.size ≤ _; simp)
        rw [padded_succ] at K
        refine ⟨m + 1, _, by omega, by omega, K.more (fun b hb hf => ?_), ?_⟩
        · rcases hf with hf | hf
          · exact hf
          · exact .inr (Nat.le_trans H4.out.size (Nat.le_trans hw hf))
        · exact (((H4.out.alloc _).drew).grown hg (fun b hb => RR.out.2 b hb)).setCell (p := ⟨vb, k * 5 + 2, none⟩) (.inl hFv) _
      clear HR H4
      go_region_law
        ((refine step_append_lies _ (by rfl) (.tmp 57) (.tmp 58) 32 (by rfl) 0 3 i0 _ 1 8 Try.underlying32 HI.out HZ0.out HZ1.out HZ2.out rfl (by omega) (.slice A0 L cap0) L (nums Xl) (by rfl) ((RR.out.1.drew).alloc _) ⟨wr.heap.size, 0, none⟩ 1 1 [.int .i64 0] (by rfl) (by rfl) (World.news_of_block (cs := #[.int .i64 0]) (t := 3) (fr := (0, 0)) (heap_alloc_new _ _)) (by simp [Value.oneCell']) (by omega) (by unfold maxLen; omega) (by omega) (Nat.zero_le _) (wr.heap.size + 1) (by simp) ?_; intro gg cap1 w1 hown1 hgrow hat hlt; have e0 : w1.cell? ⟨g, 0, none⟩ = some (.slice (some ⟨vb, 0, none⟩) r.N cap) := (by rw [hgrow.cell_far _ (by simp; omega) (Ne.symm AG.out)]; go_keep); have e1 : w1.cell? ⟨vb, k * 5 + 2, none⟩ = some (.slice A0 L cap0) := (by rw [hgrow.cell_far _ (by simp; omega) (Ne.symm AV.out)]; go_keep); have e2 : w1.frozen? ⟨vb, k * 5 + 2, none⟩ = false := (by rw [hgrow.frozen_far _ (by simp; omega) (Ne.symm AV.out)]; exact (frozen?_alloc_cells _ _ _ _).trans FV)))
      all_goals clear H3 RR e0 e1 e2 dV d0 NE NE2 HV HXL HL
      all_goals
        go_wp2_with fail
        go_roundg (gk - 1)
        case rel => exact STEP.out gg cap1 w1 hown1 hgrow hat
        case measure => omega
    · obtain ⟨ii, rfl⟩ := Int.eq_ofNat_of_zero_le hi0
      have hm : m = ii + 1 - (r.X k 0).length := by
        have e1 : (Int.ofNat ii).toNat = ii := rfl
        have e2 : ((ii : Int)).toNat = ii := rfl
        omega
      obtain ⟨nb, nc, hnb, hFn, _, _⟩ := RR.out.form (by omega)
      injection hnb with hA hc1 hc2
      subst hA
      have K := H3.out.stored (k := k) (j := 0) hk (by omega) (nb := nb) (c := cap0) (by rw [HV.out, HL.out, HXL.out]) ii x
      rw [setNear_is r k ii m x hm] at K
      have KK := Lib.hid K.1
      have O := Lib.hid (H4.out.setCell (p := ⟨nb, ii, none⟩) hFn (.int .i64 x))
      have cx : wr.cell? ⟨nb, ii, none⟩ = some (.int .i64 (Xl.getD ii 0)) := RR.out.cell (nums_get Xl ii (by rw [← HL.out]; omega))
      have fx : wr.frozen? ⟨nb, ii, none⟩ = false := RR.out.frozen ii
      clear H3 H4 RR K hm HV HXL HL hc1 hc2 HR
      generalize Xl.getD ii 0 = y at *
      go_wp2_with fail
      go_ret
      exact ⟨rfl, ⟨_, _, KK.out⟩, O.out⟩
end Go.Proofs.Ytoakmifihofpeaa
