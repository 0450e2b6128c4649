/- The walk of the law over a script of calls: each asked twice. -/
import Derived.Test.YtlegpccgmgbekaaLaws
import Derived.Test.YtlegpccgmgbekaaArgs
set_option linter.unusedVariables false
namespace Go.Proofs.Ytlegpccgmgbekaa
open Go.RowKit
theorem bcell {W w1 : World} (hb : Below W.heap.size W w1) : (∀ b o, b < W.heap.size → w1.cell? ⟨b, o, none⟩ = W.cell? ⟨b, o, none⟩) ∧ (∀ b o, b < W.heap.size → w1.frozen? ⟨b, o, none⟩ = W.frozen? ⟨b, o, none⟩) :=
  ⟨fun b o h => hb.cell (p := ⟨b, o, none⟩) h, fun b o h => hb.frozen (p := ⟨b, o, none⟩) h⟩
theorem wfb {n : Int} (h : (Lit.int .i64 n).wf = true) : -9223372036854775808 ≤ n ∧ n ≤ 9223372036854775807 := by
  simpa [Lit.wf, IntKind.min, IntKind.max, IntKind.signed, IntKind.bits] using h
theorem all_c (A : Option Addr) (len cap : Nat) (F : Nat → Nat → Int) (w : World) (h : RS w 4 A len F) : Calls Try.prog 5 #[.slice A len cap] w fun e w' => e = .returned (.bool true) ∧ Below w.heap.size w w' := by
  obtain ⟨h1, h2, h3⟩ := h
  by_cases hlen : 10000 < len
  · go_enter Try.func5, Try.ntmps5
    go_wp2
    go_ret
    exact ⟨rfl, Below.refl _ _⟩
  · have H3 := Lib.hid h3
    have H2 := Lib.hid h2
    clear h2 h3
    go_enter Try.func5, Try.ntmps5
    go_wp2_with (go_at_call 12; refine (alive_c _).mono ?_; rintro e w1 ⟨rfl, HB⟩)
    go_loopw [3, 4] (fun x i wr => ∃ k : Nat, k ≤ len ∧ i = .int .i64 (k : Int) ∧ x = .bool true ∧ Below w.heap.size w wr) (fun _ i _ => len - (intOf i).toNat)
    case atStart => exact ⟨0, by omega, rfl, rfl, HB⟩
    case round =>
      obtain ⟨k, hk, rfl, rfl, HR⟩ := hrel
      by_cases hlt : k < len
      · obtain ⟨b, off, rfl, hbl⟩ := H2.out (by omega)
        have c0 : wr.cell? ⟨b, off + k * 4, none⟩ = _ := (HR.cell hbl).trans ((H3.out k hlt 0 (by omega)).2 b off rfl)
        have c1 := (HR.cell hbl).trans ((H3.out k hlt 1 (by omega)).2 b off rfl)
        have c2 := (HR.cell hbl).trans ((H3.out k hlt 2 (by omega)).2 b off rfl)
        have c3 := (HR.cell hbl).trans ((H3.out k hlt 3 (by omega)).2 b off rfl)
        have q0 := wfb (H3.out k hlt 0 (by omega)).1
        have q1 := wfb (H3.out k hlt 1 (by omega)).1
        have q2 := wfb (H3.out k hlt 2 (by omega)).1
        have q3 := wfb (H3.out k hlt 3 (by omega)).1
        obtain ⟨q20, q21⟩ := q2
        obtain ⟨q30, q31⟩ := q3
        clear H3 H2 q0 q1
        go_wp2_with fail
        refine (one_c _ _ _ _ q20 q21 q30 q31 _).mono ?_
        rintro e w2 ⟨rfl, HB2⟩
        obtain ⟨hc, hf⟩ := bcell HB2
        have hz : wr.heap.size + 1 ≤ w2.heap.size := by have := HB2.size; simpa using this
        have HW : Below w.heap.size w w2 := (HR.alloc HR.size _).trans (HB2.mono (by simp; have := HR.size; omega))
        clear HB2
        have d0 : w2.cell? ⟨wr.heap.size, 0, none⟩ = some (.int .i64 (F k 0)) := (hc _ _ (by simp)).trans (by simp)
        have d1 : w2.cell? ⟨wr.heap.size, 1, none⟩ = some (.int .i64 (F k 1)) := (hc _ _ (by simp)).trans (by simp)
        have d2 : w2.cell? ⟨wr.heap.size, 2, none⟩ = some (.int .i64 (F k 2)) := (hc _ _ (by simp)).trans (by simp)
        have d3 : w2.cell? ⟨wr.heap.size, 3, none⟩ = some (.int .i64 (F k 3)) := (hc _ _ (by simp)).trans (by simp)
        clear hc hf c0 c1 c2 c3
        go_wp2_with fail
        refine (one_c _ _ _ _ q20 q21 q30 q31 _).mono ?_
        rintro e w3 ⟨rfl, HB3⟩
        go_wp2_with fail
        go_roundw
        case rel => exact ⟨k + 1, by omega, by go_num, rfl, HW.trans (HB3.mono HW.size)⟩
        case measure => simp [intOf]; omega
      · go_wp2_with fail
        go_ret
        exact ⟨rfl, HR⟩
end Go.Proofs.Ytlegpccgmgbekaa
