/- R16Depth: the walk. -/
import Derived.Test.YtkjfbojmkkdgoaaL14
import Derived.Test.YtkjfbojmkkdgoaaP4
import Derived.Test.YtkjfbojmkkdgoaaAp
import Derived.Deep.DeepCutAuto
import Derived.Deep.DrawnRows
set_option linter.unusedVariables false
set_option linter.unusedSimpArgs false
namespace Go.Proofs.Ytkjfbojmkkdgoaa
open Go.RowKit
attribute [local go_sem ↓] Go.wp_at_zero Go.wp_at_succ
def depM (n : Int) : Nat → Ins := fun i => ([⟨1, 5, 0, 0, 1⟩, ⟨1, 0, 0, 0, n⟩, ⟨26, 0, 0, 0, 1⟩, ⟨37, 0, 0, 0, 0⟩, ⟨27, 0, 0, 0, 0⟩] : List Ins).getD i ⟨0, 0, 0, 0, 0⟩
def depFn (f : Int) : Nat → Ins := fun i => ([⟨25, 0, 0, 0, f - 1⟩, ⟨22, 0, 0, 0, 11⟩, ⟨4, 0, 0, 5, 0⟩, ⟨26, 0, 0, 0, 1⟩, ⟨24, 1, 0, 0, f - 1⟩, ⟨3, 0, 0, 1, 0⟩, ⟨27, 0, 0, 0, 0⟩] : List Ins).getD i ⟨0, 0, 0, 0, 0⟩
def depMc (n : Int) : Array Value := #[.int .i64 1, .int .i64 5, .int .i64 0, .int .i64 0, .int .i64 1, .int .i64 1, .int .i64 0, .int .i64 0, .int .i64 0, .int .i64 n, .int .i64 26, .int .i64 0, .int .i64 0, .int .i64 0, .int .i64 1, .int .i64 37, .int .i64 0, .int .i64 0, .int .i64 0, .int .i64 0, .int .i64 27, .int .i64 0, .int .i64 0, .int .i64 0, .int .i64 0]
def depFc (f : Int) : Array Value := #[.int .i64 25, .int .i64 0, .int .i64 0, .int .i64 0, .int .i64 (f - 1), .int .i64 22, .int .i64 0, .int .i64 0, .int .i64 0, .int .i64 11, .int .i64 4, .int .i64 0, .int .i64 0, .int .i64 5, .int .i64 0, .int .i64 26, .int .i64 0, .int .i64 0, .int .i64 0, .int .i64 1, .int .i64 24, .int .i64 1, .int .i64 0, .int .i64 0, .int .i64 (f - 1), .int .i64 3, .int .i64 0, .int .i64 0, .int .i64 1, .int .i64 0, .int .i64 27, .int .i64 0, .int .i64 0, .int .i64 0, .int .i64 0]
theorem depth_in (n f : Int) (hn : i64in n) (hf : i64in (f - 1)) : ∀ i, i < 12 → InsIn (depthX n f i) := by
  have h0 := in_0
  have h1 := in_1
  have h5 : i64in 5 := ⟨by decide, by decide⟩
  have k : ∀ x : Int, 0 ≤ x → x ≤ 40 → i64in x := fun x a b => ⟨by omega, by omega⟩
  intro i hi
  have h : i = 0 ∨ i = 1 ∨ i = 2 ∨ i = 3 ∨ i = 4 ∨ i = 5 ∨ i = 6 ∨ i = 7 ∨ i = 8 ∨ i = 9 ∨ i = 10 ∨ i = 11 := by omega
  rcases h with rfl | rfl | rfl | rfl | rfl | rfl | rfl | rfl | rfl | rfl | rfl | rfl
  · exact ⟨h1, h5, h0, h0, h1⟩
  · exact ⟨h1, h0, h0, h0, hn⟩
  · exact ⟨k 26 (by decide) (by decide), h0, h0, h0, h1⟩
  · exact ⟨k 37 (by decide) (by decide), h0, h0, h0, h0⟩
  · exact ⟨k 27 (by decide) (by decide), h0, h0, h0, h0⟩
  · exact ⟨k 25 (by decide) (by decide), h0, h0, h0, hf⟩
  · exact ⟨k 22 (by decide) (by decide), h0, h0, h0, k 11 (by decide) (by decide)⟩
  · exact ⟨k 4 (by decide) (by decide), h0, h0, h5, h0⟩
  · exact ⟨k 26 (by decide) (by decide), h0, h0, h0, h1⟩
  · exact ⟨k 24 (by decide) (by decide), h1, h0, h0, hf⟩
  · exact ⟨k 3 (by decide) (by decide), h0, h0, h1, h0⟩
  · exact ⟨k 27 (by decide) (by decide), h0, h0, h0, h0⟩
theorem depf_name : NameOk ⟨#[102]⟩ := by
  refine ⟨by decide, by decide, by kernel_rfl, fun i hi => ?_⟩
  have h : i = 0 := by have h2 : i < 1 := hi; omega
  subst h
  show charOk _ _ = true
  kernel_rfl
theorem depth_code (n f : Int) (h3 : 3 ≤ f) (h4 : f ≤ 1000) : CodeOk 12 (depthX n f) 2 (depthF f) 0 := by
  have nm : ∀ k : Int, 2 ≤ k → k < f → numberOk 2 (depthF f 1) ⟨25, 0, 0, 0, k⟩ = true ∧ numberOk 2 (depthF f 1) ⟨24, 1, 0, 0, k⟩ = true := fun k a b => by
    have e1 : decide (2 ≤ k) = true := decide_eq_true a
    have e2 : decide (k < f) = true := decide_eq_true b
    constructor
    · show (decide (2 ≤ k) && decide (k < f)) = true
      rw [e1, e2]; rfl
    · show (decide (2 ≤ k) && decide (k < f)) = true
      rw [e1, e2]; rfl
  refine ⟨fun k hk => ?_, rfl, by decide, by decide, rfl⟩
  have h : k = 0 ∨ k = 1 := by omega
  rcases h with rfl | rfl
  · refine ⟨rfl, (by decide : (1 : Int) ≤ 5), (by decide : (5 : Int) ≤ 12 - 0), fun j hj => by omega, main_name, (by decide : (2 : Int) ≤ 2), (by decide : (2 : Int) ≤ 1099511627776), (by decide : (0 : Int) ≤ 0), (by decide : (0 : Int) ≤ 8), fun j hj => ?_, by kernel_rfl⟩
    have hj2 : j = 0 ∨ j = 1 ∨ j = 2 ∨ j = 3 ∨ j = 4 := by have h4 : j < 5 := hj; omega
    rcases hj2 with rfl | rfl | rfl | rfl | rfl <;> (show insOk _ _ _ = true; kernel_rfl)
  · refine ⟨rfl, (by decide : (1 : Int) ≤ 7), (by decide : (7 : Int) ≤ 12 - 5), fun j hj => ?_, depf_name, by show 2 ≤ f; omega, by show f ≤ _; omega, (by decide : (0 : Int) ≤ 1), (by decide : (1 : Int) ≤ 8), fun j hj => ?_, by kernel_rfl⟩
    · obtain rfl : j = 0 := by omega
      intro e
      cases e
    have hj2 : j = 0 ∨ j = 1 ∨ j = 2 ∨ j = 3 ∨ j = 4 ∨ j = 5 ∨ j = 6 := by have h4 : j < 7 := hj; omega
    rcases hj2 with rfl | rfl | rfl | rfl | rfl | rfl | rfl
    · have := (nm (f - 1) (by omega) (by omega)).1
      show ((usesOf 25).2 && fieldOk 0 (useBit 25 1) && fieldOk 0 (useBit 25 2) && fieldOk 0 (useBit 25 4) && numberOk 2 (depthF f 1) ⟨25, 0, 0, 0, f - 1⟩) = true
      rw [this]
      kernel_rfl
    · show insOk _ _ _ = true; kernel_rfl
    · show insOk _ _ _ = true; kernel_rfl
    · show insOk _ _ _ = true; kernel_rfl
    · have := (nm (f - 1) (by omega) (by omega)).2
      show ((usesOf 24).2 && fieldOk 1 (useBit 24 1) && fieldOk 0 (useBit 24 2) && fieldOk 0 (useBit 24 4) && numberOk 2 (depthF f 1) ⟨24, 1, 0, 0, f - 1⟩) = true
      rw [this]
      kernel_rfl
    · show insOk _ _ _ = true; kernel_rfl
    · show insOk _ _ _ = true; kernel_rfl
theorem depthF_in (f : Int) (hf : i64in f) : ∀ i, i < 2 → FnIn (depthF f i) ∧ (depthF f i).name.size ≤ 9223372036854775807 := by
  have k : ∀ x : Int, 0 ≤ x → x ≤ 40 → i64in x := fun x a b => ⟨by omega, by omega⟩
  intro i hi
  have h : i = 0 ∨ i = 1 := by omega
  rcases h with rfl | rfl
  · exact ⟨⟨k 2 (by decide) (by decide), in_0, k 5 (by decide) (by decide), in_0⟩, (by decide : (4 : Nat) ≤ 9223372036854775807)⟩
  · exact ⟨⟨hf, k 5 (by decide) (by decide), k 7 (by decide) (by decide), in_1⟩, (by decide : (1 : Nat) ≤ 9223372036854775807)⟩
set_option maxRecDepth 100000 in
set_option maxHeartbeats 8000000 in
theorem depth_0 (w : World) (n0 frame0 less0 : Int) (n : Nat) (frame less : Int) (hn : bits .and .i64 n0 4095 = (n : Int)) (hf : bits .and .i64 frame0 255 = frame) (hl : bits .and .i64 less0 1 = less) (a1 : n ≤ 4095) (b0 : 0 ≤ frame) (b1 : frame ≤ 255) (c0 : less = 0 ∨ less = 1) :
    Calls Try.prog 7 #[.int .i64 n0, .int .i64 frame0, .int .i64 less0] w fun e w' => e = .returned (.bool true) ∧ Below w.heap.size w w' := by
  go_enter Try.func7, Try.ntmps7
  go_upto_region 7 with fail
  have BF := Lib.hid ((blk_at rfl).alloc _ : Blk ((w.alloc (.cells (depFc (3 + frame)) 54)).alloc (.cells (depMc n) 54)) w.heap.size 54 (depFc (3 + frame)))
  have BM := Lib.hid (blk_at (by simp) : Blk ((w.alloc (.cells (depFc (3 + frame)) 54)).alloc (.cells (depMc n) 54)) (w.heap.size + 1) 54 (depMc n))
  have O0 := Lib.hid (((Only.refl (fun _ => False) w).alloc _).alloc _ : Only (fun _ => False) w ((w.alloc (.cells (depFc (3 + frame)) 54)).alloc (.cells (depMc n) 54)))
  have hs0 : ((w.alloc (.cells (depFc (3 + frame)) 54)).alloc (.cells (depMc n) 54)).heap.size = w.heap.size + 2 := by simp
  unfold depFc depMc at BF BM O0 hs0
  generalize World.alloc (World.alloc _ _) _ = w0 at *
  have NM := Lib.hid (Blk.news BM.out (l := manyC insL (depM n) 5) (by kernel_rfl))
  have ONE := Lib.hid (fun (X : Nat → Ins) k => manyC_one insL_one X k)
  go_upto_region 8 with (first
    | (have X2 := R1; at_builtin; go_must (refine wpList_app rfl (.tmp 49) (.tmp 50) 22 rfl app22 (fun b => w.heap.size + 2 ≤ b) _ 5 _ rfl X2.out _ 7 7 (manyC insL (depFn (3 + frame)) 7) rfl (by kernel_rfl) (fun h => by cases h) (NF1.out) (ONE.out _ _) (by decide) (by decide) 12 rfl (manyC insL (depthX n (3 + frame)) 12) (by kernel_rfl) ?_); go_must (intro A2 cap2 w2 r2 o2; have R2 := Lib.hid r2; have O2 := Lib.hid (O1.out.trans (G := fun b => w.heap.size + 2 ≤ b) o2 fun b h1 h2 => by have h3 : w.heap.size + 2 ≤ b := h2; omega); clear r2 o2))
    | (at_builtin; go_must (refine wpList_app rfl (.const (.slice none 0 0)) (.tmp 48) 22 rfl app22 (fun b => w.heap.size + 2 ≤ b) _ 0 [] rfl (Row.nil_ _ _ _ _) _ 5 5 (manyC insL (depM n) 5) rfl (by kernel_rfl) (fun h => by cases h) NM.out (ONE.out _ _) (by decide) (by decide) 5 rfl _ (List.nil_append _) ?_); go_must (intro A1 cap1 w1 r1 o1; have R1 := Lib.hid (r1.mono (G := fun b => w.heap.size + 2 ≤ b) fun b _ h => h.elim id fun h => by have h2 : w0.heap.size ≤ b := h; omega); have NF1 := Lib.hid (Blk.news (BF.out.only o1 (fun h => by omega)) (l := manyC insL (depFn (3 + frame)) 7) (by kernel_rfl)); have O1 := Lib.hid (O0.out.trans (G := fun b => w.heap.size + 2 ≤ b) o1 fun b h1 h2 => by have h3 : w.heap.size + 2 ≤ b := h2; omega); clear r1 o1)))
  clear R1 NF1 BF BM NM O0 X2
  obtain ⟨A2', cap2', e2, hcap2, IL2⟩ := R2.out.il (depth_in n (3 + frame) ⟨by omega, by omega⟩ ⟨by omega, by omega⟩) (by decide)
  injection e2 with e2 e5 e3
  clear e5
  subst e2 e3
  have hA2 : A2 = none → cap2 = 0 := fun h => by
    obtain ⟨g2, cap2', e2, -⟩ := R2.out.form (by decide)
    subst h
    injection e2 with e2
    cases e2
  have IL2 := Lib.hid IL2
  clear R2
  go_upto_region 9 with fail
  have BN := Lib.hid ((blk_at rfl).alloc _ : Blk ((w2.alloc (.cells #[.string ⟨#[109, 97, 105, 110]⟩, .int .i64 2, .int .i64 0, .int .i64 5, .int .i64 0, .string ⟨#[102]⟩, .int .i64 (3 + frame), .int .i64 5, .int .i64 7, .int .i64 1] 61)).alloc (.cells #[.slice A2 12 cap2, .slice (some ⟨w2.heap.size, 0, none⟩) 2 2, .int .i64 0] 25)) w2.heap.size 61 #[.string ⟨#[109, 97, 105, 110]⟩, .int .i64 2, .int .i64 0, .int .i64 5, .int .i64 0, .string ⟨#[102]⟩, .int .i64 (3 + frame), .int .i64 5, .int .i64 7, .int .i64 1])
  have BC := Lib.hid (blk_at (by simp) : Blk ((w2.alloc (.cells #[.string ⟨#[109, 97, 105, 110]⟩, .int .i64 2, .int .i64 0, .int .i64 5, .int .i64 0, .string ⟨#[102]⟩, .int .i64 (3 + frame), .int .i64 5, .int .i64 7, .int .i64 1] 61)).alloc (.cells #[.slice A2 12 cap2, .slice (some ⟨w2.heap.size, 0, none⟩) 2 2, .int .i64 0] 25)) (w2.heap.size + 1) 25 #[.slice A2 12 cap2, .slice (some ⟨w2.heap.size, 0, none⟩) 2 2, .int .i64 0])
  have O4 := Lib.hid ((O2.out.alloc (.cells #[.string ⟨#[109, 97, 105, 110]⟩, .int .i64 2, .int .i64 0, .int .i64 5, .int .i64 0, .string ⟨#[102]⟩, .int .i64 (3 + frame), .int .i64 5, .int .i64 7, .int .i64 1] 61)).alloc (.cells #[.slice A2 12 cap2, .slice (some ⟨w2.heap.size, 0, none⟩) 2 2, .int .i64 0] 25))
  have IL4 := Lib.hid (IL2.out.tr (G' := fun _ => True) (((Only.refl (fun _ => False) w2).alloc (.cells #[.string ⟨#[109, 97, 105, 110]⟩, .int .i64 2, .int .i64 0, .int .i64 5, .int .i64 0, .string ⟨#[102]⟩, .int .i64 (3 + frame), .int .i64 5, .int .i64 7, .int .i64 1] 61)).alloc (.cells #[.slice A2 12 cap2, .slice (some ⟨w2.heap.size, 0, none⟩) 2 2, .int .i64 0] 25)) fun _ _ _ => ⟨fun h => h, trivial⟩)
  clear O2 IL2
  generalize World.alloc (World.alloc w2 _) _ = w4 at *
  have k0 := BC.out.cell 0
  have k1 := BC.out.cell 1
  have k2 := BC.out.cell 2
  simp only [List.getElem?_toArray, List.getElem?_cons_zero, List.getElem?_cons_succ] at k0 k1 k2
  have CA4 : CA w4 (fun _ => True) A2 12 cap2 (depthX n (3 + frame)) (some ⟨w2.heap.size, 0, none⟩) 2 2 (depthF (3 + frame)) 0 none [] 0 :=
    ⟨IL4.out, hcap2, FL_blk BN.out (by kernel_rfl) (depthF_in (3 + frame) ⟨by omega, by omega⟩) (by decide) trivial, in_0, by decide, ⟨by decide, fun i hi => by cases hi⟩, hA2, (fun h => by cases h), fun _ => rfl, (fun x hx => by cases hx), by decide⟩
  have h4w : w.heap.size ≤ w4.heap.size := O4.out.size
  have hm1 : 0 ≤ ((n : Int) + 1) * (3 + frame) := Int.mul_nonneg (by omega) (by omega)
  have hm2 : ((n : Int) + 1) * (3 + frame) ≤ 4096 * 258 := Int.mul_le_mul (by omega) (by omega) (by omega) (by omega)
  have hm0 : 3 ≤ ((n : Int) + 1) * (3 + frame) := by
    have : 0 ≤ (n : Int) * (3 + frame) := Int.mul_nonneg (by omega) (by omega)
    rw [Int.add_mul, Int.one_mul]; omega
  rcases c0 with rfl | rfl
  · skip
    have OK4 : NewOk 12 (depthX n (3 + frame)) 2 (depthF (3 + frame)) 0 [] (2 + ((n : Int) + 1) * (3 + frame)) 0 := ⟨depth_code n (3 + frame) (by omega) (by omega), by decide, by omega, by omega, by decide, by decide⟩
    have NY := Lib.hid (new_yes CA4 OK4)
    have SK := Lib.hid (CA4.sound OK4)
    clear CA4 OK4 IL4 BN BC
    obtain ⟨qf, hr, f1, f2, f3, f4⟩ := depth_yes n a1 (3 + frame) (by omega)
    obtain ⟨z, hz⟩ : ∃ z, z = (n : Int) * ((n : Int) + 1) / 2 := ⟨_, rfl⟩
    have hm3 : 0 ≤ (n : Int) * ((n : Int) + 1) := Int.mul_nonneg (by omega) (by omega)
    have hm4 : (n : Int) * ((n : Int) + 1) ≤ 4095 * 4096 := Int.mul_le_mul (by omega) (by omega) (by omega) (by omega)
    have hz2 : (n : Int) * ((n : Int) + 1) / 2 = z := hz.symm
    rw [← hz] at f3
    have QF : Hid (QV qf [(1, z)] 1 1 qf.kind qf.val qf.steps 0 ((n : Int) + 2)) := ⟨f3, rfl, f1, rfl, rfl, rfl, f4, f2⟩
    clear f1 f2 f3 f4 hz
    generalize qf.kind = x1 at *
    generalize qf.val = x2 at *
    generalize qf.steps = x3 at *
    generalize qf.hp.tk = x4 at *
    have HR : Hid (runN (kOf 12 (depthX n (3 + frame)) 2 (depthF (3 + frame)) 0 (2 + ((n : Int) + 1) * (3 + frame)) 0) (20 * ((n : Int) + 2)).toNat (newQ (kOf 12 (depthX n (3 + frame)) 2 (depthF (3 + frame)) 0 (2 + ((n : Int) + 1) * (3 + frame)) 0) []) = qf) := by
      rw [show (20 * ((n : Int) + 2)).toNat = 20 * (n + 2) by omega]
      exact hr
    have HM : Hid ((newQ (kOf 12 (depthX n (3 + frame)) 2 (depthF (3 + frame)) 0 (2 + ((n : Int) + 1) * (3 + frame)) 0) []).steps + (madeN (kOf 12 (depthX n (3 + frame)) 2 (depthF (3 + frame)) 0 (2 + ((n : Int) + 1) * (3 + frame)) 0) (20 * ((n : Int) + 2)).toNat (newQ (kOf 12 (depthX n (3 + frame)) 2 (depthF (3 + frame)) 0 (2 + ((n : Int) + 1) * (3 + frame)) 0) []) : Int) < 4000000000000) := by
      have := madeN_le (kOf 12 (depthX n (3 + frame)) 2 (depthF (3 + frame)) 0 (2 + ((n : Int) + 1) * (3 + frame)) 0) (20 * ((n : Int) + 2)).toNat (newQ (kOf 12 (depthX n (3 + frame)) 2 (depthF (3 + frame)) 0 (2 + ((n : Int) + 1) * (3 + frame)) 0) [])
      rw [newQ_steps]
      show _ < _
      omega
    clear hr
    go_wp2_with fail
    refine NY.out.mono ?_
    rintro e w5 ⟨g, rfl, M5, b5⟩
    have hs5 := b5.size
    have O5 := Lib.hid (O4.out.trans (Only.ofBelow (F := fun _ => False) b5) fun _ _ h => h)
    have M5 := Lib.hid M5
    clear O4 b5 NY
    go_wp2_with fail
    refine (alive_c w5).mono ?_
    rintro e w6 ⟨rfl, b6⟩
    have hs6 := b6.size
    have O6 := Lib.hid (O5.out.trans (Only.ofBelow (F := fun _ => False) b6) fun _ _ h => h)
    have RC := Lib.hid (run_v SK.out (M5.out.keep (Only.ofBelow (F := fun _ => False) b6) fun _ _ _ h => h) (fun b hb => by show w4.heap.size ≤ b; omega) (20 * ((n : Int) + 2)) (by omega) (by omega) HM.out HR.out QF.out)
    have hw46 : w.heap.size ≤ w4.heap.size := h4w
    clear O5 M5 b6 HM HR QF SK
    go_wp2_with (go_at_call 18; refine (num_c _ _).mono ?_; rintro e w9 ⟨rfl, hw9⟩; subst hw9)
    refine RC.out.mono ?_
    rintro e wa ⟨Aa, ca, rfl, Ra, Ma, Oa⟩
    have O7 := Lib.hid (O6.out.trans (G := fun b => w4.heap.size ≤ b) Oa fun b h1 h2 => by have h3 : w4.heap.size ≤ b := h2; omega)
    clear RC Ma O6 Oa
    obtain ⟨eb, cb, e3, he0, he1, -⟩ := Ra.form (by decide)
    injection e3 with e3 e5 e4
    clear e5
    subst e3 e4
    have v1 := Ra.cell (i := 1) (u := .int .i64 z) rfl
    have BE := blk_at rfl (w := wa) (t := 44) (cs := #[.slice (some ⟨eb, 0, none⟩) 1 ca, .int .i64 1, .int .i64 x1, .int .i64 x2, .int .i64 x3, .int .i64 0, .int .i64 ((n : Int) + 2)])
    have v1' := (World.cell?_alloc_past (w := wa) (.cells #[.slice (some ⟨eb, 0, none⟩) 1 ca, .int .i64 1, .int .i64 x1, .int .i64 x2, .int .i64 x3, .int .i64 0, .int .i64 ((n : Int) + 2)] 44) eb 1 he1).trans v1
    have O8 := Lib.hid (O7.out.alloc (.cells #[.slice (some ⟨eb, 0, none⟩) 1 ca, .int .i64 1, .int .i64 x1, .int .i64 x2, .int .i64 x3, .int .i64 0, .int .i64 ((n : Int) + 2)] 44))
    clear Ra v1 he0
    have x0 := BE.cell 0
    have y1 := BE.cell 1
    have y5 := BE.cell 5
    have y6 := BE.cell 6
    simp only [List.getElem?_toArray, List.getElem?_cons_zero, List.getElem?_cons_succ] at x0 y1 y5 y6
    clear BE O7
    go_wp2_with (go_at_call 18; refine (num_c _ _).mono ?_; rintro e w9 ⟨rfl, hw9⟩; subst hw9)
    go_ret
    exact ⟨rfl, O8.out.toBelow (Nat.le_refl _) fun _ _ h => h⟩
  · skip
    have OK4 : NewOk 12 (depthX n (3 + frame)) 2 (depthF (3 + frame)) 0 [] (2 + ((n : Int) + 1) * (3 + frame) - 1) 0 := ⟨depth_code n (3 + frame) (by omega) (by omega), by decide, by omega, by omega, by decide, by decide⟩
    have NY := Lib.hid (new_yes CA4 OK4)
    have SK := Lib.hid (CA4.sound OK4)
    clear CA4 OK4 IL4 BN BC
    obtain ⟨qf, hr, f1, f2, f3, f4, f5⟩ := depth_no n a1 (3 + frame) (by omega)
    have QF : Hid (QV qf [] 0 2 7 0 qf.steps qf.hp.tk ((n : Int) + 1)) := ⟨f5, rfl, f1, f2, f3, rfl, rfl, f4⟩
    clear f1 f2 f3 f4 f5
    generalize qf.kind = x1 at *
    generalize qf.val = x2 at *
    generalize qf.steps = x3 at *
    generalize qf.hp.tk = x4 at *
    have HR : Hid (runN (kOf 12 (depthX n (3 + frame)) 2 (depthF (3 + frame)) 0 (2 + ((n : Int) + 1) * (3 + frame) - 1) 0) (20 * ((n : Int) + 2)).toNat (newQ (kOf 12 (depthX n (3 + frame)) 2 (depthF (3 + frame)) 0 (2 + ((n : Int) + 1) * (3 + frame) - 1) 0) []) = qf) := by
      rw [show (20 * ((n : Int) + 2)).toNat = 20 * (n + 2) by omega]
      exact hr
    have HM : Hid ((newQ (kOf 12 (depthX n (3 + frame)) 2 (depthF (3 + frame)) 0 (2 + ((n : Int) + 1) * (3 + frame) - 1) 0) []).steps + (madeN (kOf 12 (depthX n (3 + frame)) 2 (depthF (3 + frame)) 0 (2 + ((n : Int) + 1) * (3 + frame) - 1) 0) (20 * ((n : Int) + 2)).toNat (newQ (kOf 12 (depthX n (3 + frame)) 2 (depthF (3 + frame)) 0 (2 + ((n : Int) + 1) * (3 + frame) - 1) 0) []) : Int) < 4000000000000) := by
      have := madeN_le (kOf 12 (depthX n (3 + frame)) 2 (depthF (3 + frame)) 0 (2 + ((n : Int) + 1) * (3 + frame) - 1) 0) (20 * ((n : Int) + 2)).toNat (newQ (kOf 12 (depthX n (3 + frame)) 2 (depthF (3 + frame)) 0 (2 + ((n : Int) + 1) * (3 + frame) - 1) 0) [])
      rw [newQ_steps]
      show _ < _
      omega
    clear hr
    go_wp2_with fail
    refine NY.out.mono ?_
    rintro e w5 ⟨g, rfl, M5, b5⟩
    have hs5 := b5.size
    have O5 := Lib.hid (O4.out.trans (Only.ofBelow (F := fun _ => False) b5) fun _ _ h => h)
    have M5 := Lib.hid M5
    clear O4 b5 NY
    go_wp2_with fail
    refine (alive_c w5).mono ?_
    rintro e w6 ⟨rfl, b6⟩
    have hs6 := b6.size
    have O6 := Lib.hid (O5.out.trans (Only.ofBelow (F := fun _ => False) b6) fun _ _ h => h)
    have RC := Lib.hid (run_v SK.out (M5.out.keep (Only.ofBelow (F := fun _ => False) b6) fun _ _ _ h => h) (fun b hb => by show w4.heap.size ≤ b; omega) (20 * ((n : Int) + 2)) (by omega) (by omega) HM.out HR.out QF.out)
    have hw46 : w.heap.size ≤ w4.heap.size := h4w
    clear O5 M5 b6 HM HR QF SK
    go_wp2_with (go_at_call 18; refine (num_c _ _).mono ?_; rintro e w9 ⟨rfl, hw9⟩; subst hw9)
    refine RC.out.mono ?_
    rintro e wa ⟨Aa, ca, rfl, Ra, Ma, Oa⟩
    have O7 := Lib.hid (O6.out.trans (G := fun b => w4.heap.size ≤ b) Oa fun b h1 h2 => by have h3 : w4.heap.size ≤ b := h2; omega)
    clear RC Ma O6 Oa
    have BE := blk_at rfl (w := wa) (t := 44) (cs := #[.slice Aa 0 ca, .int .i64 2, .int .i64 7, .int .i64 0, .int .i64 x3, .int .i64 x4, .int .i64 ((n : Int) + 1)])
    have O8 := Lib.hid (O7.out.alloc (.cells #[.slice Aa 0 ca, .int .i64 2, .int .i64 7, .int .i64 0, .int .i64 x3, .int .i64 x4, .int .i64 ((n : Int) + 1)] 44))
    clear Ra
    have x0 := BE.cell 0
    have y1 := BE.cell 1
    have y2 := BE.cell 2
    have y3 := BE.cell 3
    have y6 := BE.cell 6
    simp only [List.getElem?_toArray, List.getElem?_cons_zero, List.getElem?_cons_succ] at x0 y1 y2 y3 y6
    clear BE O7
    go_wp2_with (go_at_call 18; refine (num_c _ _).mono ?_; rintro e w9 ⟨rfl, hw9⟩; subst hw9)
    go_ret
    exact ⟨rfl, O8.out.toBelow (Nat.le_refl _) fun _ _ h => h⟩
theorem r16depth_c (w : World) (n frame less : Int) : Calls Try.prog 7 #[.int .i64 n, .int .i64 frame, .int .i64 less] w fun e w' => e = .returned (.bool true) ∧ Below w.heap.size w w' := by
  obtain ⟨o0, o1⟩ := and_rng n 4095 (by decide)
  obtain ⟨p0, p1⟩ := and_rng frame 255 (by decide)
  obtain ⟨t0, t1⟩ := and_rng less 1 (by decide)
  rw [show ((4095 : Nat) : Int) = 4095 from rfl] at o0 o1
  rw [show ((255 : Nat) : Int) = 255 from rfl] at p0 p1
  rw [show ((1 : Nat) : Int) = 1 from rfl] at t0 t1
  obtain ⟨k, hk⟩ := Int.eq_ofNat_of_zero_le o0
  exact depth_0 w n frame less k _ _ hk rfl rfl (by omega) p0 p1 (by omega)
end Go.Proofs.Ytkjfbojmkkdgoaa
