/- alive: the diamond's line. -/
import Derived.Test.YtdpeckfdilpidaaW5
import Derived.Test.YtdpeckfdilpidaaPlain3
set_option linter.unusedVariables false
set_option linter.unusedSimpArgs false
namespace Go.Proofs.Ytdpeckfdilpidaa
open Go.RowKit
attribute [local go_sem ↓] Go.wp_at_zero Go.wp_at_succ
def DW (w : World) : World := (((w.alloc (.cells #[.int .i64 1, .int .i64 2] 3)).alloc (.cells #[.int .i64 3] 3)).alloc (.cells #[.int .i64 3] 3)).alloc (.cells #[.slice (some ⟨w.heap.size, 0, none⟩) 2 2, .slice (some ⟨w.heap.size + 1, 0, none⟩) 1 1, .slice (some ⟨w.heap.size + 1 + 1, 0, none⟩) 1 1, .slice none 0 0] 27)
theorem diamond_rll (w : World) : RLL (DW w) (fun b => w.heap.size ≤ b ∧ b < (DW w).heap.size) (some ⟨w.heap.size + 1 + 1 + 1, 0, none⟩) 4 DX ∧ Below w.heap.size w (DW w) := by
  have z1 : (w.alloc (.cells #[.int .i64 1, .int .i64 2] 3)).heap.size = w.heap.size + 1 := by simp
  have z2 : ((w.alloc (.cells #[.int .i64 1, .int .i64 2] 3)).alloc (.cells #[.int .i64 3] 3)).heap.size = w.heap.size + 1 + 1 := by simp
  have z3 : (((w.alloc (.cells #[.int .i64 1, .int .i64 2] 3)).alloc (.cells #[.int .i64 3] 3)).alloc (.cells #[.int .i64 3] 3)).heap.size = w.heap.size + 1 + 1 + 1 := by simp
  have z4 : (DW w).heap.size = w.heap.size + 1 + 1 + 1 + 1 := by simp [DW]
  have b1 : Blk (DW w) w.heap.size 3 #[.int .i64 1, .int .i64 2] := (((Blk.new w 3 _).alloc _).alloc _).alloc _
  have b2 : Blk (DW w) (w.heap.size + 1) 3 #[.int .i64 3] := by
    have := Blk.new (w.alloc (.cells #[.int .i64 1, .int .i64 2] 3)) 3 #[.int .i64 3]
    rw [z1] at this; exact (this.alloc _).alloc _
  have b3 : Blk (DW w) (w.heap.size + 1 + 1) 3 #[.int .i64 3] := by
    have := Blk.new ((w.alloc (.cells #[.int .i64 1, .int .i64 2] 3)).alloc (.cells #[.int .i64 3] 3)) 3 #[.int .i64 3]
    rw [z2] at this; exact this.alloc _
  have b4 : Blk (DW w) (w.heap.size + 1 + 1 + 1) 27 #[.slice (some ⟨w.heap.size, 0, none⟩) 2 2, .slice (some ⟨w.heap.size + 1, 0, none⟩) 1 1, .slice (some ⟨w.heap.size + 1 + 1, 0, none⟩) 1 1, .slice none 0 0] := by
    have := Blk.new (((w.alloc (.cells #[.int .i64 1, .int .i64 2] 3)).alloc (.cells #[.int .i64 3] 3)).alloc (.cells #[.int .i64 3] 3)) 27 #[.slice (some ⟨w.heap.size, 0, none⟩) 2 2, .slice (some ⟨w.heap.size + 1, 0, none⟩) 1 1, .slice (some ⟨w.heap.size + 1 + 1, 0, none⟩) 1 1, .slice none 0 0]
    rw [z3] at this; exact this
  have one (g : Nat) (hg : w.heap.size ≤ g ∧ g < (DW w).heap.size) (x : Int) (hx : i64in x) (hb : Blk (DW w) g 3 #[.int .i64 x]) : RL (DW w) (fun b => w.heap.size ≤ b ∧ b < (DW w).heap.size) (some ⟨g, 0, none⟩) [x] :=
    ⟨by simp, fun i hi => by
      obtain rfl : i = 0 := by simp at hi; omega
      exact ⟨hx, g, 0, rfl, hg, hg.2, (hb.cell 0)⟩⟩
  refine ⟨⟨by omega, fun k hk => ?_⟩, (((((Below.refl _ w).alloc (Nat.le_refl _) _).alloc (by simp) _).alloc (by simp <;> omega) _).alloc (by simp <;> omega) _)⟩
  rcases (show k = 0 ∨ k = 1 ∨ k = 2 ∨ k = 3 by omega) with rfl | rfl | rfl | rfl
  · refine ⟨_, 0, some ⟨w.heap.size, 0, none⟩, 2, rfl, by omega, by omega, b4.cell 0, by simp [DX], fun i hi => ?_⟩
    have hi' : i < 2 := hi
    rcases (show i = 0 ∨ i = 1 by omega) with rfl | rfl
    · exact ⟨⟨by decide, by decide⟩, _, 0, rfl, by omega, by omega, b1.cell 0⟩
    · exact ⟨⟨by decide, by decide⟩, _, 0, rfl, by omega, by omega, b1.cell 1⟩
  · exact ⟨_, 0, some ⟨w.heap.size + 1, 0, none⟩, 1, rfl, by omega, by omega, b4.cell 1, one _ (by omega) 3 ⟨by decide, by decide⟩ b2⟩
  · exact ⟨_, 0, some ⟨w.heap.size + 1 + 1, 0, none⟩, 1, rfl, by omega, by omega, b4.cell 2, one _ (by omega) 3 ⟨by decide, by decide⟩ b3⟩
  · exact ⟨_, 0, none, 0, rfl, by omega, by omega, b4.cell 3, by simp [DX], fun i hi => absurd hi (Nat.not_lt_zero _)⟩
set_option maxRecDepth 100000 in
set_option maxHeartbeats 4000000 in
theorem alive_c (w : World) : Calls Try.prog 9 #[] w fun e w' => e = .returned (.bool true) ∧ Below w.heap.size w w' := by
  have LC := Lib.hid (line_c (DW w) _ _ 4 4 DX (diamond_rll w).1 (fun k hk => hk.2) (by omega))
  go_enter Try.func9, Try.ntmps9
  go_wp2_with fail
  refine LC.out.mono ?_
  rintro e w1 ⟨v, rfl, hb, hcase⟩
  have HB := Lib.hid ((diamond_rll w).2.trans (hb.mono (diamond_rll w).2.size))
  have HR : Hid (Row w1 (fun k => (DW w).heap.size ≤ k) 3 1 v 4 (nums [0, 1, 2, 3])) := by
    obtain ⟨t, h1, h2, h3⟩ := diamond
    rcases hcase with ⟨hn, _⟩ | ⟨_, _, s, hs, ho, hr⟩
    · refine absurd ⟨fun k hk i hi => ?_, by omega⟩ hn
      rcases (show k = 0 ∨ k = 1 ∨ k = 2 ∨ k = 3 by omega) with rfl | rfl | rfl | rfl
      · have hi' : i < 2 := hi
        rcases (show i = 0 ∨ i = 1 by omega) with rfl | rfl <;> decide
      · have hi' : i < 1 := hi
        obtain rfl : i = 0 := by omega
        decide
      · have hi' : i < 1 := hi
        obtain rfl : i = 0 := by omega
        decide
      · exact absurd hi (Nat.not_lt_zero _)
    · obtain rfl := hs.steps.end_ h1 ho h2
      rw [h3] at hr
      exact hr
  clear hcase hb LC
  obtain ⟨Av, cv, rfl, hRL⟩ := HR.out.reads (l := [0, 1, 2, 3]) (fun i hi => by
    have hi' : i < 4 := hi
    rcases (show i = 0 ∨ i = 1 ∨ i = 2 ∨ i = 3 by omega) with rfl | rfl | rfl | rfl <;> exact ⟨by decide, by decide⟩) (by simp)
  have bl := Blk.new w1 3 #[.int .i64 0, .int .i64 1, .int .i64 2, .int .i64 3]
  have R2 : RL (w1.alloc (.cells #[.int .i64 0, .int .i64 1, .int .i64 2, .int .i64 3] 3)) (fun b => b = w1.heap.size) (some ⟨w1.heap.size, 0, none⟩) [0, 1, 2, 3] := ⟨by simp, fun i hi => by
    have hi' : i < 4 := hi
    rcases (show i = 0 ∨ i = 1 ∨ i = 2 ∨ i = 3 by omega) with rfl | rfl | rfl | rfl
    · exact ⟨⟨by decide, by decide⟩, _, 0, rfl, rfl, bl.lt, bl.cell 0⟩
    · exact ⟨⟨by decide, by decide⟩, _, 0, rfl, rfl, bl.lt, bl.cell 1⟩
    · exact ⟨⟨by decide, by decide⟩, _, 0, rfl, rfl, bl.lt, bl.cell 2⟩
    · exact ⟨⟨by decide, by decide⟩, _, 0, rfl, rfl, bl.lt, bl.cell 3⟩⟩
  have SC := Lib.hid (same_c _ _ _ _ _ _ _ cv 4 (hRL.only ((Only.refl (fun _ => False) w1).alloc (.cells #[.int .i64 0, .int .i64 1, .int .i64 2, .int .i64 3] 3)) (fun _ _ _ h => h)) R2)
  clear hRL R2 HR bl
  go_wp2_with fail
  refine SC.out.mono ?_
  rintro e w2 ⟨rfl, n, rfl⟩
  go_wp2_with fail
  go_ret
  have hz := (HB.out.alloc HB.out.size (.cells #[.int .i64 0, .int .i64 1, .int .i64 2, .int .i64 3] 3))
  exact ⟨rfl, ⟨hz.os, hz.tape, hz.output, hz.size, hz.block⟩⟩
end Go.Proofs.Ytdpeckfdilpidaa
