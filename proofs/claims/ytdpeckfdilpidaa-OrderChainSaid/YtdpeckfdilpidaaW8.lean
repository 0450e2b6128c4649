/- OrderChain: the walk. -/
import Derived.Test.YtdpeckfdilpidaaW7
set_option linter.unusedVariables false
set_option linter.unusedSimpArgs false
namespace Go.Proofs.Ytdpeckfdilpidaa
open Go.RowKit
attribute [local go_sem ↓] Go.wp_at_zero Go.wp_at_succ
set_option maxRecDepth 100000 in
set_option maxHeartbeats 8000000 in
theorem chain_c (n : Int) (hn : i64in n) (w : World) : Calls Try.prog 7 #[.int .i64 n] w fun e w' => e = .returned (.bool true) ∧ Below w.heap.size w w' := by
  have AC := Lib.hid (alive_c w)
  obtain ⟨n1, n2⟩ := hn
  by_cases hb : n < 1
  · go_enter Try.func7, Try.ntmps7
    go_wp2_with (first | (go_at_call 9; refine AC.out.mono ?_; rintro e w1 ⟨rfl, hb1⟩))
    go_ret
    exact ⟨rfl, hb1⟩
  by_cases hb2 : 50000 < n
  · go_enter Try.func7, Try.ntmps7
    go_wp2_with (first | (go_at_call 9; refine AC.out.mono ?_; rintro e w1 ⟨rfl, hb1⟩))
    go_ret
    exact ⟨rfl, hb1⟩
  obtain ⟨m, rfl⟩ : ∃ m : Nat, n = (m : Int) := ⟨n.toNat, by omega⟩
  obtain ⟨Z, hZ, hmk⟩ := made_lists m (by omega)
  have HZ := Lib.hid hZ
  clear hZ
  go_enter Try.func7, Try.ntmps7
  go_wp2_with (first | (go_at_call 9; refine AC.out.mono ?_; rintro e w1 ⟨rfl, hb1⟩; have HB := Lib.hid hb1; clear hb1))
  have hs1 : w.heap.size ≤ w1.heap.size := HB.out.size
  have E0 : Hid (ChainAt w (w1.alloc (.cells Z 27)) w1.heap.size m 0) := by
    refine ⟨HB.out.alloc hs1 _, fun b => b = w1.heap.size, fun _ => .slice none 0 0, ⟨⟨⟨by simp [heads], .inr ⟨w1.heap.size, m, Z, rfl, Nat.zero_le _, heap_alloc_new w1 _, Nat.le_refl _, by simp [maxLen]; omega, ?_, ?_⟩⟩, fun b hb => ?_⟩, fun k hk => ?_, fun k k' _ _ _ b hb => by simp [Value.ownBlock] at hb⟩, fun b hb => by simp; omega, fun k _ => rfl⟩
    · have : Z.toList.length = m := by rw [HZ.out]; simp [heads]
      simpa using this
    · rw [HZ.out, List.take_of_length_le]; simp [heads]
    · simp [Value.ownBlock] at hb; exact hb.symm
    · rw [if_neg (Nat.not_lt_zero _)]; exact Row.nil_ _ _ _ _
  clear HB HZ AC
  generalize htb : w1.heap.size = tb at *
  go_loopw [5] (fun i wr => ∃ k : Nat, k + 1 ≤ m ∧ i = .int .i64 (k : Int) ∧ Hid (ChainAt w wr tb m k)) (fun i _ => m - (intOf i).toNat)
  case atStart => exact ⟨0, by omega, rfl, E0⟩
  case round =>
    obtain ⟨k, hk, rfl, HR⟩ := hrel
    clear E0
    by_cases hlt : k + 1 < m
    · obtain ⟨hh, ff⟩ : wr.cell? ⟨tb, k, none⟩ = some (.slice none 0 0) ∧ wr.frozen? ⟨tb, k, none⟩ = false := by
        obtain ⟨_, F, V, hl, _, hV⟩ := HR.out
        exact ⟨by rw [hl.head_cell (by omega), hV k (Nat.le_refl _)], hl.row.frozen k⟩
      have hltb := World.block_lt_of_cell? wr _ hh
      have hn0 := HR.out.next (by omega)
      rw [World.setCell_alloc_past _ _ _ _ hltb] at hn0
      have HN := Lib.hid hn0
      clear hn0
      have hkm : k < m := by omega
      have hlt' := World.block_lt_of_cell? wr _ hh
      have hh' : (wr.alloc (.cells #[.int .i64 ((k : Int) + 1)] 3)).cell? ⟨tb, k, none⟩ = some (.slice none 0 0) := (Only.cell ((Only.refl (fun _ => False) wr).alloc _) hlt' (fun h => h)).trans hh
      have ff' : (wr.alloc (.cells #[.int .i64 ((k : Int) + 1)] 3)).frozen? ⟨tb, k, none⟩ = false := (frozen?_alloc_cells _ _ _ _).trans ff
      clear HR
      go_wp2_with fail
      go_roundw
      case rel => exact ⟨k + 1, by omega, by go_num, HN⟩
      case measure => first | (simp [intOf]; done) | (simp [intOf]; omega)
    · obtain rfl : m = k + 1 := by omega
      have hB : Hid (Below w.heap.size w wr) := HR.out.1
      have RL0 : Hid (RLL wr (fun b => b < wr.heap.size) (some ⟨tb, 0, none⟩) (k + 1) (CX (k + 1))) := by
        obtain ⟨_, F, V, hl, hF, _⟩ := HR.out
        refine ((hl.congr (X' := CX (k + 1)) (fun j hj => ?_)).reads (by omega) (fun j hj => ?_)).more fun b _ hb => (hF b hb).2
        · unfold CX
          by_cases h : j < k
          · rw [if_pos h, if_pos (by omega)]
          · rw [if_neg h, if_neg (by omega)]
        · unfold CX
          by_cases h : j + 1 < k + 1
          · rw [if_pos h]
            refine ⟨by simp, fun i hi => ?_⟩
            obtain rfl : i = 0 := by simp at hi; omega
            constructor <;> simp <;> omega
          · rw [if_neg h]
            exact ⟨by simp, fun i hi => absurd hi (Nat.not_lt_zero _)⟩
      have LC := Lib.hid (line_c wr _ _ (k + 1) (k + 1) (CX (k + 1)) RL0.out (fun k hk => hk) (by omega))
      clear HR
      go_wp2_with fail
      refine LC.out.mono ?_
      rintro e w2 ⟨v, rfl, hb, hcase⟩
      have HB := Lib.hid (hB.out.trans (hb.mono hB.out.size))
      have HRow : Hid (Row w2 (fun b => wr.heap.size ≤ b) 3 1 v (k + 1) (nums (ofNats (List.range (k + 1))))) := by
        obtain ⟨t, h1, h2, h3⟩ := chain_end (k + 1) (by omega)
        rcases hcase with ⟨hn, _⟩ | ⟨_, _, s, hs, ho, hr⟩
        · refine absurd ⟨fun j hj i hi => ?_, by omega⟩ hn
          unfold CX at hi ⊢
          by_cases h : j + 1 < k + 1
          · rw [if_pos h] at hi ⊢
            obtain rfl : i = 0 := by simp at hi; omega
            simp; omega
          · rw [if_neg h] at hi
            exact absurd hi (Nat.not_lt_zero _)
        · obtain rfl := hs.steps.end_ h1 ho h2
          rw [h3] at hr
          have hr' : Row w2 (fun b => wr.heap.size ≤ b) 3 1 v (k + 1) (nums (ofNats (List.range (k + 1)))) := by simpa using hr
          exact hr'
      clear hcase hb LC RL0 hB
      have hln : (ofNats (List.range (k + 1))).length = k + 1 := by simp [ofNats]
      have hget : ∀ j, j < k + 1 → (ofNats (List.range (k + 1))).getD j 0 = (j : Int) := fun j hj => by
        simp [ofNats, List.getD_eq_getElem?_getD, hj]
      obtain ⟨Av, cv, rfl, hRL⟩ := HRow.out.reads (fun i hi => by
        rw [hln] at hi
        rw [hget i hi]
        constructor <;> omega) (by omega)
      have CC : Hid (∀ j, j < k + 1 → ∃ b off, Av = some ⟨b, off, none⟩ ∧ w2.cell? ⟨b, off + j, none⟩ = some (.int .i64 (j : Int))) := fun j hj => by
        obtain ⟨_, b, off, h1, _, _, h2⟩ := hRL.2 j (by omega)
        rw [hget j hj] at h2
        exact ⟨b, off, h1, h2⟩
      rw [hln]
      clear hRL HRow hget hln
      generalize k + 1 = m at *
      go_wp2_with fail
      go_loop [7] (fun i => ∃ j : Nat, j ≤ m ∧ i = .int .i64 (j : Int)) (fun i => m - (intOf i).toNat)
      case atStart => exact ⟨0, by omega, rfl⟩
      case round =>
        obtain ⟨j, hj, rfl⟩ := hrel
        by_cases hlt2 : j < m
        · obtain ⟨b, off, rfl, hc⟩ := CC.out j hlt2
          clear CC
          go_wp2_with fail
          go_round
          case rel => exact ⟨j + 1, by omega, by go_num⟩
          case measure => first | (simp [intOf]; done) | (simp [intOf]; omega)
        · go_wp2_with fail
          go_ret
          exact ⟨rfl, HB.out.os, HB.out.tape, HB.out.output, HB.out.size, HB.out.block⟩
end Go.Proofs.Ytdpeckfdilpidaa
