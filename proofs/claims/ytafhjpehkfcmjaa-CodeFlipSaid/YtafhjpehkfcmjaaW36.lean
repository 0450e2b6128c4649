/- the laws' num, sample: walks; what alive asks. -/
import Derived.Test.YtafhjpehkfcmjaaW35
set_option linter.unusedVariables false
set_option linter.unusedSimpArgs false
namespace Go.Proofs.Ytafhjpehkfcmjaa
open Go.RowKit
attribute [local go_sem ↓] Go.wp_at_zero Go.wp_at_succ
def sX : Nat → Ins := fun _ => ⟨27, 0, 0, 0, 0⟩
def sF : Nat → Fn := fun _ => ⟨⟨#[109, 97, 105, 110]⟩, 2, 0, 1, 0⟩
def wantL : List UInt8 := [113, 114, 49, 54, 1, 0, 0, 0, 0, 0, 0, 0, 4, 109, 97, 105, 110, 2, 0, 0, 0, 0, 0, 0, 0, 1, 0, 0, 0, 0, 27]
theorem want_enc : enc 1 sX 1 sF 0 = wantL := by decide +kernel
theorem sample_name : NameOk ⟨#[109, 97, 105, 110]⟩ := by
  refine ⟨by decide, by decide, by decide +kernel, ?_⟩
  have h : ∀ i : Fin 4, charOk i.1 (bAt ⟨#[109, 97, 105, 110]⟩ i.1) = true := by decide +kernel
  intro i hi
  exact h ⟨i, hi⟩
theorem sample_ok : CodeOk 1 sX 1 sF 0 := by
  refine ⟨fun k hk => ?_, by decide, by decide, by decide, by decide⟩
  obtain rfl : k = 0 := by omega
  refine ⟨rfl, by decide, by decide, fun j hj => absurd hj (Nat.not_lt_zero _), sample_name, by decide, by decide, by decide, by decide, fun j hj => ?_, by decide⟩
  obtain rfl : j = 0 := by have : (sF 0).count.toNat = 1 := rfl; omega
  decide +kernel
def lstF (l : List UInt8) (i : Nat) : UInt8 := l.getD i 0
theorem slc_lst (l : List UInt8) : ∀ n, n ≤ l.length → slc (lstF l) 0 n = l.take n
  | 0, _ => by simp [slc]
  | n + 1, h => by
    rw [slc_succ, slc_lst l n (by omega), List.take_succ_eq_append_getElem (by omega)]
    congr 2
    unfold lstF
    rw [List.getD_eq_getElem?_getD, Nat.zero_add, List.getElem?_eq_getElem (by omega)]; rfl
theorem at_lst (l : List UInt8) : At (lstF l) l.length 0 l := ⟨by omega, by rw [slc_lst l _ (Nat.le_refl _), List.take_length]⟩
theorem sX_in (a : Nat) : InsIn (sX a) := ⟨⟨(by decide : (-9223372036854775808 : Int) ≤ 27), (by decide : (27 : Int) ≤ 9223372036854775807)⟩, ⟨(by decide : (-9223372036854775808 : Int) ≤ 0), (by decide : (0 : Int) ≤ 9223372036854775807)⟩, ⟨(by decide : (-9223372036854775808 : Int) ≤ 0), (by decide : (0 : Int) ≤ 9223372036854775807)⟩, ⟨(by decide : (-9223372036854775808 : Int) ≤ 0), (by decide : (0 : Int) ≤ 9223372036854775807)⟩, ⟨(by decide : (-9223372036854775808 : Int) ≤ 0), (by decide : (0 : Int) ≤ 9223372036854775807)⟩⟩
theorem sF_in (a : Nat) : FnIn (sF a) := ⟨⟨(by decide : (-9223372036854775808 : Int) ≤ 2), (by decide : (2 : Int) ≤ 9223372036854775807)⟩, ⟨(by decide : (-9223372036854775808 : Int) ≤ 0), (by decide : (0 : Int) ≤ 9223372036854775807)⟩, ⟨(by decide : (-9223372036854775808 : Int) ≤ 1), (by decide : (1 : Int) ≤ 9223372036854775807)⟩, ⟨(by decide : (-9223372036854775808 : Int) ≤ 0), (by decide : (0 : Int) ≤ 9223372036854775807)⟩⟩
theorem sample_run : run (lstF wantL) 31 pAll 0 = .good ⟨tabX sX 1, tabF sF 1, 0⟩ := by
  have := enc_run (B := lstF wantL) (L := 31) sample_ok (fun a _ => sX_in a) (by omega) (by omega) (by rw [want_enc]; exact at_lst wantL) (by rw [want_enc]; rfl)
  exact this
theorem sample_short : run (lstF wantL) 30 pAll 0 = .bad 30 := run_short (by omega) pAll 0 Sm_all (by omega) (.inr ⟨_, sample_run⟩)
theorem num_c (e : Int) (w : World) : Calls Try.prog 22 #[.int .i64 e] w fun r w' => r = .returned (.int .i64 e) ∧ w' = w := by
  go_enter Try.func22, Try.ntmps22
  go_wp2
  go_ret
  exact ⟨rfl, rfl⟩
theorem sample_c (w : World) : Calls Try.prog 23 #[] w fun e w' => ∃ A B, e = .returned (codeV A 1 1 B 1 1 0) ∧ IL w' (fun b => w.heap.size ≤ b) A 1 sX ∧ FL w' (fun b => w.heap.size ≤ b) B 1 sF ∧ Below w.heap.size w w' := by
  go_enter Try.func23, Try.ntmps23
  go_wp2
  have K0 := Blk.new w 25 #[.slice (some ⟨w.heap.size + 1, 0, none⟩) 1 1, .slice (some ⟨w.heap.size + 1 + 1, 0, none⟩) 1 1, .int .i64 0]
  have K1 := Blk.new (w.alloc (.cells #[.slice (some ⟨w.heap.size + 1, 0, none⟩) 1 1, .slice (some ⟨w.heap.size + 1 + 1, 0, none⟩) 1 1, .int .i64 0] 25)) 41 #[.int .i64 27, .int .i64 0, .int .i64 0, .int .i64 0, .int .i64 0]
  have K2 := Blk.new ((w.alloc (.cells #[.slice (some ⟨w.heap.size + 1, 0, none⟩) 1 1, .slice (some ⟨w.heap.size + 1 + 1, 0, none⟩) 1 1, .int .i64 0] 25)).alloc (.cells #[.int .i64 27, .int .i64 0, .int .i64 0, .int .i64 0, .int .i64 0] 41)) 53 #[.string ⟨#[109, 97, 105, 110]⟩, .int .i64 2, .int .i64 0, .int .i64 1, .int .i64 0]
  have K0' := (K0.alloc (.cells #[.int .i64 27, .int .i64 0, .int .i64 0, .int .i64 0, .int .i64 0] 41)).alloc (.cells #[.string ⟨#[109, 97, 105, 110]⟩, .int .i64 2, .int .i64 0, .int .i64 1, .int .i64 0] 53)
  have K1' := K1.alloc (.cells #[.string ⟨#[109, 97, 105, 110]⟩, .int .i64 2, .int .i64 0, .int .i64 1, .int .i64 0] 53)
  have z1 : (w.alloc (.cells #[.slice (some ⟨w.heap.size + 1, 0, none⟩) 1 1, .slice (some ⟨w.heap.size + 1 + 1, 0, none⟩) 1 1, .int .i64 0] 25)).heap.size = w.heap.size + 1 := by simp
  have z2 : ((w.alloc (.cells #[.slice (some ⟨w.heap.size + 1, 0, none⟩) 1 1, .slice (some ⟨w.heap.size + 1 + 1, 0, none⟩) 1 1, .int .i64 0] 25)).alloc (.cells #[.int .i64 27, .int .i64 0, .int .i64 0, .int .i64 0, .int .i64 0] 41)).heap.size = w.heap.size + 1 + 1 := by simp
  have BB := (((Below.refl w.heap.size w).alloc (Nat.le_refl _) (.cells #[.slice (some ⟨w.heap.size + 1, 0, none⟩) 1 1, .slice (some ⟨w.heap.size + 1 + 1, 0, none⟩) 1 1, .int .i64 0] 25)).alloc (by simp) (.cells #[.int .i64 27, .int .i64 0, .int .i64 0, .int .i64 0, .int .i64 0] 41)).alloc (by simp; omega) (.cells #[.string ⟨#[109, 97, 105, 110]⟩, .int .i64 2, .int .i64 0, .int .i64 1, .int .i64 0] 53)
  rw [z1] at K1'
  rw [z2] at K2
  refine bodyPost_ret (results_cell rfl (a := ⟨w.heap.size, 0, none⟩) rfl (run_loadVar_row _ w.heap.size 25 25 #[.slice (some ⟨w.heap.size + 1, 0, none⟩) 1 1, .slice (some ⟨w.heap.size + 1 + 1, 0, none⟩) 1 1, .int .i64 0] (0, 0) _ K0' Try.underlying25 rfl (by kernel_rfl))) rfl ?_
  refine ⟨some ⟨w.heap.size + 1, 0, none⟩, some ⟨w.heap.size + 1 + 1, 0, none⟩, rfl, ⟨by decide, fun i hi => ?_⟩, ⟨by decide, fun i hi => ?_⟩, BB⟩
  · obtain rfl : i = 0 := by omega
    exact ⟨sX_in 0, w.heap.size + 1, 0, rfl, Nat.le_succ _, K1'.lt, K1'.cell 0, K1'.cell 1, K1'.cell 2, K1'.cell 3, K1'.cell 4⟩
  · obtain rfl : i = 0 := by omega
    exact ⟨sF_in 0, (by decide : (4 : Nat) ≤ 9223372036854775807), w.heap.size + 1 + 1, 0, rfl, Nat.le_trans (Nat.le_succ _) (Nat.le_succ _), K2.lt, K2.cell 0, K2.cell 1, K2.cell 2, K2.cell 3, K2.cell 4⟩
end Go.Proofs.Ytafhjpehkfcmjaa
