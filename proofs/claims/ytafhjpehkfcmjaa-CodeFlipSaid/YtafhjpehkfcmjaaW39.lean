/- fits: the walk. -/
import Derived.Test.YtafhjpehkfcmjaaW38
set_option linter.unusedVariables false
set_option linter.unusedSimpArgs false
namespace Go.Proofs.Ytafhjpehkfcmjaa
open Go.RowKit
attribute [local go_sem ↓] Go.wp_at_zero Go.wp_at_succ
/-- A code in a box of the call's own. -/
structure CB (w wr : World) (G : Nat → Prop) (A : Option Addr) (ni ci : Nat) (X : Nat → Ins) (B : Option Addr) (nf cf : Nat) (Fs : Nat → Fn) (m : Int) : Prop where
  b1 : Blk wr w.heap.size 25 #[.slice A ni ci, .slice B nf cf, .int .i64 m]
  il : IL wr G A ni X
  fl : FL wr G B nf Fs
  below : Below w.heap.size w wr
section
variable {w wr w2 : World} {G : Nat → Prop} {A B : Option Addr} {ni ci nf cf : Nat} {X : Nat → Ins} {Fs : Nat → Fn} {m : Int}
theorem CB.start (hi : IL w G A ni X) (hf : FL w G B nf Fs) : CB w (w.alloc (.cells #[.slice A ni ci, .slice B nf cf, .int .i64 m] 25)) G A ni ci X B nf cf Fs m := by
  have hb := (Below.refl w.heap.size w).alloc (Nat.le_refl _) (.cells #[.slice A ni ci, .slice B nf cf, .int .i64 m] 25)
  exact ⟨Blk.new w 25 _, hi.below hb, hf.below hb, hb⟩
theorem CB.on (h : CB w wr G A ni ci X B nf cf Fs m) (hb : Below wr.heap.size wr w2) : CB w w2 G A ni ci X B nf cf Fs m :=
  ⟨h.b1.below hb h.b1.lt, h.il.below hb, h.fl.below hb, h.below.trans (hb.mono h.below.size)⟩
end
def FitsPost (ni nf : Nat) (w : World) (e : Ending) (w' : World) : Prop := ∃ r, e = .returned (.bool r) ∧ (r = true → ni ≤ 50000 ∧ nf ≤ 1000) ∧ Below w.heap.size w w'
set_option maxRecDepth 100000 in
set_option maxHeartbeats 16000000 in
theorem fits_c (w : World) (G : Nat → Prop) (A : Option Addr) (ni ci : Nat) (X : Nat → Ins) (B : Option Addr) (nf cf : Nat) (Fs : Nat → Fn) (m : Int) (hi : IL w G A ni X) (hf : FL w G B nf Fs) (hci : ni ≤ ci) (hcf : nf ≤ cf) :
    Calls Try.prog 12 #[codeV A ni ci B nf cf m] w (FitsPost ni nf w) := by
  have S0 : Hid (CB w (w.alloc (.cells #[.slice A ni ci, .slice B nf cf, .int .i64 m] 25)) G A ni ci X B nf cf Fs m) := CB.start hi hf
  have hni := hi.1
  have hnf := hf.1
  clear hi hf
  unfold codeV
  go_enter Try.func12, Try.ntmps12
  go_wp2_with fail
  go_loopw [3, 4] (fun nv kv wx => ∃ k N : Nat, k ≤ nf ∧ ni + k ≤ N ∧ N ≤ 9223372036854775807 ∧ nv = .int .i64 (N : Int) ∧ kv = .int .i64 (k : Int) ∧ Hid (CB w wx G A ni ci X B nf cf Fs m)) (fun _ kv _ => nf - (intOf kv).toNat)
  case atStart => exact ⟨0, ni, by omega, by omega, by omega, rfl, rfl, S0⟩
  case round =>
    clear S0
    obtain ⟨k, N, hk, hN, hN2, rfl, rfl, S⟩ := hrel
    have cB : wr.cell? ⟨w.heap.size, 1, none⟩ = some (.slice B nf cf) := S.out.b1.cell 1
    have hl1 := S.out.b1.lt
    by_cases hkl : k < nf
    · obtain ⟨_, hsz, b, off, rfl, _, hbl, k0, _⟩ := S.out.fl.2 k hkl
      by_cases hN3 : N ≤ 50000
      · have hq : ((((Fs k).name.size : Nat) : Int).tdiv 64) = (((Fs k).name.size / 64 : Nat) : Int) := by rw [Int.tdiv_eq_ediv_of_nonneg (by omega)]; omega
        go_wp2_with fail
        go_roundw
        case rel => exact ⟨k + 1, N + 1 + (Fs k).name.size / 64, by omega, by omega, by omega, by go_num, by go_num, S⟩
        case measure => first | (simp [intOf]; done) | (simp [intOf]; omega)
      · go_wp2_with fail
        go_ret
        exact ⟨false, rfl, fun h => (by cases h), S.out.below⟩
    · by_cases hN3 : N ≤ 50000
      · go_wp2_with fail
        go_ret
        exact ⟨decide ((nf : Int) ≤ 1000), rfl, fun h => ⟨by omega, by have := of_decide_eq_true h; omega⟩, S.out.below⟩
      · go_wp2_with fail
        go_ret
        exact ⟨false, rfl, fun h => (by cases h), S.out.below⟩
end Go.Proofs.Ytafhjpehkfcmjaa
