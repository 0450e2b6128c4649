/- OrderWays: for every input the call returns true, and each argument reads behind it as it read before. No condition of our own. -/
import Derived.Test.YtdpeckfdilpidaaW12
import Derived.Test.YtdpeckfdilpidaaBulk
import Derived.SizedLaws
import Derived.WalkKit
import Derived.ProofKit
import Derived.OpenShut
import Derived.Test.YtdpeckfdilpidaaRows
import Derived.Test.YtdpeckfdilpidaaArgs
namespace Go.Proofs.Ytdpeckfdilpidaa.orderWays
open Go.ChangeShapes Go.WideShapes Go.ChangeAt Go.RowKit
set_option linter.unusedVariables false
theorem own : ownKnob Try.prog.godebug = none := by kernel_rfl
theorem laidOut : laidOutB Try.prog = true := by kernel_rfl
theorem wfi {n : Int} (h : (Lit.int .i64 n).wf = true) : -9223372036854775808 ≤ n ∧ n ≤ 9223372036854775807 := by
  simpa [Lit.wf, IntKind.min, IntKind.max, IntKind.signed, IntKind.bits] using h
set_option maxRecDepth 100000 in
theorem lifted (os : Os) (started : os.Started) (H : Type) (enc : TypeId × Value → H) :
    ReturnsInHanded {} Try.checked os 6 .any (Rows.orderWaysSpec.pre6 enc Try.prog Try.f6 Rows.orderWaysRow.domain false) (Rows.orderWaysSpec.post enc Try.prog Try.f6 false true false false) := by
  refine returnsInHanded_of_change_sized (C := Try.checked) own started (by kernel_rfl) Try.func6
    (ChangeSpec.witness6 (enc := enc) (C := Try.checked) false ⟨#[], #[.slice none 0 0, .slice none 0 0], []⟩ 8 (by kernel_rfl) (by kernel_rfl) (by kernel_rfl) (by kernel_rfl)) ?_
  intro W base args ds gs before hval0 hW hcnd hsz _
  have hval : ∀ (j : Nat) t v, Try.f6.params[j]? = some t → args[j]? = some v → Value.okWide Try.prog W .any base t v := hval0
  have hW' := hW
  obtain ⟨p, q, hA0, hV, rfl, hfz, hnd⟩ := hW
  have hA : DataW.TrodAll enc Try.prog W 0 (fun _ => true) true Try.f6.params.toList args.toList ds p := hA0
  rw [Try.params6] at hA hval hsz
  obtain ⟨v0, vs0, d0, ds0, p0, q0, hargs, rfl, rfl, h0, r0⟩ := trodAll_cons hA
  obtain ⟨v1, vs1, d1, ds1, p1, q1, rfl, rfl, rfl, h1, r1⟩ := trodAll_cons r0
  obtain ⟨rfl, rfl, rfl⟩ := trodAll_nil r1
  obtain rfl : args = #[v0, v1] := by cases args; simp_all
  obtain ⟨rfl, rfl⟩ := trodVars_none hV
  simp only [List.cons_append, DataW.weightsEach, List.all_append, Bool.and_eq_true] at hsz
  obtain ⟨s0, s1, _⟩ := hsz
  obtain ⟨A0, len0, cap0, rfl⟩ := okWide_slice Try.underlying22 (hval 0 22 v0 rfl rfl)
  have k0 := h0
  have lt0 : ∀ x ∈ p0, x.block < W.heap.size := by obtain ⟨m, hm⟩ := k0; exact DataW.trod_lt m _ _ _ hm
  obtain ⟨X0, L0, b0, z0⟩ := open_lists_d (P := Try.prog) Try.underlying22 Try.underlying27 Try.underlying3 (by kernel_rfl) (by kernel_rfl) h0
  have y0 : ∀ k, k < len0 → (X0 k).length ≤ 4611686018427387904 := fun k hk => by have h := (z0 _ s0).2 k hk; rw [show Try.prog.bytesOf 3 = 8 by kernel_rfl] at h; unfold reachBytes at h; omega
  have n0 : len0 ≤ 4611686018427387904 := by have h := (z0 _ s0).1; rw [show Try.prog.bytesOf 27 = 24 by kernel_rfl] at h; unfold reachBytes at h; omega
  obtain ⟨A1, len1, cap1, rfl⟩ := okWide_slice Try.underlying22 (hval 1 22 v1 rfl rfl)
  have k1 := h1
  have lt1 : ∀ x ∈ p1, x.block < W.heap.size := by obtain ⟨m, hm⟩ := k1; exact DataW.trod_lt m _ _ _ hm
  obtain ⟨X1, L1, b1, z1⟩ := open_lists_d (P := Try.prog) Try.underlying22 Try.underlying27 Try.underlying3 (by kernel_rfl) (by kernel_rfl) h1
  have y1 : ∀ k, k < len1 → (X1 k).length ≤ 4611686018427387904 := fun k hk => by have h := (z1 _ s1).2 k hk; rw [show Try.prog.bytesOf 3 = 8 by kernel_rfl] at h; unfold reachBytes at h; omega
  have n1 : len1 ≤ 4611686018427387904 := by have h := (z1 _ s1).1; rw [show Try.prog.bytesOf 27 = 24 by kernel_rfl] at h; unfold reachBytes at h; omega
  clear hA0 hval0
  refine (ways_c W A0 len0 cap0 X0 A1 len1 cap1 X1 L0 L1 y0 n0 y1 n1).mono fun e W' ⟨he, bel⟩ => ?_
  subst he
  exact ⟨_, rfl, _, _, _, [], _, [], hW', trodAll_mk1 (shut_bool Try.underlying4 _), (trodAll_cons_mk (Below.trod laidOut (by kernel_rfl) (of_decide_eq_true (by kernel_rfl)) k0 bel lt0) (trodAll_cons_mk (Below.trod laidOut (by kernel_rfl) (of_decide_eq_true (by kernel_rfl)) k1 bel lt1) trodAll_mk0)), rfl, bel.frame _, fun h => by cases h⟩
theorem over : Rows.orderWaysRow.holds Try.pinned (OpenSpec.ofChange Rows.orderWaysSpec) :=
  OpenClaim.holds_of_wide 6 Try.f6 rfl rfl rfl rfl rfl rfl rfl ⟨rfl, rfl, rfl, rfl, rfl⟩ rfl rfl rfl rfl rfl (by kernel_rfl) Try.func6 (by kernel_rfl)
    (of_decide_eq_true (by kernel_rfl)) (by unfold Func.isWrapper; first | (rw [if_pos (by decide +kernel)]; kernel_rfl) | (rw [if_neg (by decide +kernel)]; exact ⟨rfl, rfl⟩))
    (fun os started H enc _ => lifted os started H enc)
theorem proved : Rows.OrderWaysSaid := over
#print axioms proved
end Go.Proofs.Ytdpeckfdilpidaa.orderWays
namespace Go.Proofs.Ytdpeckfdilpidaa
theorem orderWays_holds : Rows.OrderWaysSaid := orderWays.proved
end Go.Proofs.Ytdpeckfdilpidaa
