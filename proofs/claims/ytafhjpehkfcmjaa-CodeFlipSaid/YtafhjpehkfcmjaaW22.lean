/- the readers' bounds: the walks. -/
import Derived.Test.YtafhjpehkfcmjaaW21
set_option linter.unusedVariables false
set_option linter.unusedSimpArgs false
namespace Go.Proofs.Ytafhjpehkfcmjaa
open Go.RowKit
attribute [local go_sem ↓] Go.wp_at_zero Go.wp_at_succ
theorem wide_ops {op : Nat} (h : op ≤ 38) (hw : wideOf (op : Int) = true) : op = 1 ∨ op = 21 ∨ op = 22 ∨ op = 23 ∨ op = 24 ∨ op = 25 ∨ op = 26 ∨ op = 32 ∨ op = 33 ∨ op = 34 ∨ op = 35 := by
  have hh : ∀ j : Fin 39, wideOf (j.1 : Int) = true → j.1 = 1 ∨ j.1 = 21 ∨ j.1 = 22 ∨ j.1 = 23 ∨ j.1 = 24 ∨ j.1 = 25 ∨ j.1 = 26 ∨ j.1 = 32 ∨ j.1 = 33 ∨ j.1 = 34 ∨ j.1 = 35 := by decide
  exact hh ⟨op, by omega⟩ hw
/-- A head that a reader took: its numbers' bounds. -/
structure FnB (f : Fn) : Prop where
  fr1 : 2 ≤ f.frame
  fr2 : f.frame ≤ 1099511627776
  fi1 : 0 ≤ f.first
  fi2 : f.first ≤ 2000000000000000000
  cn1 : 1 ≤ f.count
  cn2 : f.count ≤ 4294967295
  pa1 : 0 ≤ f.params
  pa2 : f.params ≤ 8
theorem FnB.in_ {f : Fn} (h : FnB f) : FnIn f := by
  obtain ⟨h1, h2, h3, h4, h5, h6, h7, h8⟩ := h
  exact ⟨⟨by omega, by omega⟩, ⟨by omega, by omega⟩, ⟨by omega, by omega⟩, ⟨by omega, by omega⟩⟩
set_option maxRecDepth 100000 in
set_option maxHeartbeats 16000000 in
theorem rdbounds_c (w : World) (bv : Value) (r : Nat) (iv : Value) (FA : Option Addr) (nf cf : Nat) (m : Int) (mb : Nat) (p : Nat) (bad : Bool) (op : Nat) (f : Fn) (hb : Blk w r 67 (rcells bv p bad iv (.slice FA nf cf) m mb)) (hf : FnB f) (hnf : 1 ≤ nf) (hnf2 : nf ≤ 300000000) (hop : op ≤ 38) (hw : wideOf (op : Int) = true) :
    Calls Try.prog 41 #[.pointer (some ⟨r, 0, none⟩), .int .i64 (op : Int), fnV f] w fun e w' => e = .returned (.tuple #[.int .u64 ((bnd nf f op).1 : Nat), .int .u64 ((bnd nf f op).2 : Nat)]) ∧ Below w.heap.size w w' := by
  have c4 : w.cell? ⟨r, 4, none⟩ = some (.slice FA nf cf) := hb.cell 4
  have hlt := hb.lt
  have BW : Hid (∀ k, Below w.heap.size w ((w.alloc (.cells #[.string f.name, .int .i64 f.frame, .int .i64 f.first, .int .i64 f.count, .int .i64 f.params] 53)).drewN k)) := fun k => ⟨rfl, rfl, rfl, (ba (Below.refl w.heap.size w) _).size, (ba (Below.refl w.heap.size w) _).block⟩
  have B0 : Hid (Below w.heap.size w (w.alloc (.cells #[.string f.name, .int .i64 f.frame, .int .i64 f.first, .int .i64 f.count, .int .i64 f.params] 53))) := ba (Below.refl w.heap.size w) _
  obtain ⟨a1, a2, a3, a4, a5, a6, a7, a8⟩ := hf
  clear hb
  have hop2 := wide_ops hop hw
  clear hw hop
  unfold fnV
  obtain ⟨name, frame, first, count, params⟩ := f
  simp only at *
  obtain ⟨fi, rfl⟩ := Int.eq_ofNat_of_zero_le a3
  obtain ⟨fr, rfl⟩ := Int.eq_ofNat_of_zero_le (show 0 ≤ frame by omega)
  obtain ⟨cn, rfl⟩ := Int.eq_ofNat_of_zero_le (show 0 ≤ count by omega)
  rcases hop2 with rfl | rfl | rfl | rfl | rfl | rfl | rfl | rfl | rfl | rfl | rfl
  all_goals go_enter Try.func41, Try.ntmps41
  all_goals go_wp2_with fail
  all_goals try (go_quiet (fail); go_wp2_with fail)
  all_goals go_ret2
  all_goals first | (refine ⟨?_, B0.out⟩; rfl) | (refine ⟨?_, BW.out _⟩; simp [bnd]; done) | (refine ⟨?_, BW.out _⟩; simp [bnd]; omega)
end Go.Proofs.Ytafhjpehkfcmjaa
