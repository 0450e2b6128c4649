/- fill: the code that was lent is written into its memory again. fits: is code small enough. -/
import Derived.Test.YtkjfbojmkkdgoaaY3
set_option linter.unusedVariables false
set_option linter.unusedSimpArgs false
namespace Go.Proofs.Ytkjfbojmkkdgoaa
open Go.RowKit
attribute [local go_sem ↓] Go.wp_at_zero Go.wp_at_succ
set_option maxRecDepth 100000 in
set_option maxHeartbeats 8000000 in
theorem fill_c (w : World) (G F : Nat → Prop) (A : Option Addr) (ni ci : Nat) (X : Nat → Ins) (B : Option Addr) (nf cf : Nat) (Fs : Nat → Fn) (m : Int) (b1 k1 b2 k2 : Nat) (m2 : Int) (Y : Nat → Ins) (Gs : Nat → Fn) (hi : IL w G A ni X) (hf : FL w G B nf Fs) (hx : LX w F b1 k1 b2 k2 ni nf Y Gs) (hG : ∀ b, G b → b ≠ b1 ∧ b ≠ b2) (hk1 : ni + 1 ≤ k1) (hk2 : nf + 1 ≤ k2) :
    Calls Try.prog 17 #[codeV (some ⟨b1, 0, none⟩) ni k1 (some ⟨b2, 0, none⟩) nf k2 m2, codeV A ni ci B nf cf m] w fun e w' => e = .returned (.tuple #[]) ∧ LX w' F b1 k1 b2 k2 ni nf (tillN Y X ni) (tillN Gs Fs nf) ∧ Only (fun b => b = b1 ∨ b = b2) w w' := by
  have S0 := KS.start hx hi hf m2 ci cf m
  have HG := Lib.hid hG
  have hn1 := hx.n1
  have hn2 := hx.n2
  clear hi hf hx hG
  unfold codeV
  go_enter Try.func17, Try.ntmps17
  go_upto_region 1 with fail
  generalize World.alloc (World.alloc w _) _ = w0 at *
  have T0 : Hid (KS w w0 G F A ni ci X B nf cf Fs m b1 k1 b2 k2 m2 (tillN Y X 0) Gs) := by rw [tillN_zero]; exact S0
  clear S0
  go_wp2_with fail
  go_loopg [4] (ni) (fun gk iv wx => ∃ i : Nat, iv = .int .i64 (i : Int) ∧ i + gk = ni ∧ Hid (KS w wx G F A ni ci X B nf cf Fs m b1 k1 b2 k2 m2 (tillN Y X i) Gs))
  case atStart => exact ⟨0, rfl, by omega, T0⟩
  case round =>
    clear T0
    obtain ⟨i, rfl, hig, S⟩ := hrel
    have x0 := S.out.bx.cell 0
    have y0 := S.out.bc.cell 0
    simp only [List.getElem?_toArray, List.getElem?_cons_zero, List.getElem?_cons_succ] at x0 y0
    by_cases hii : i < ni
    · obtain ⟨j, rfl⟩ : ∃ j, gk = j + 1 := ⟨gk - 1, by omega⟩
      obtain ⟨hin, b, off, rfl, _, hbl, p0, p1, p2, p3, p4⟩ := S.out.il.2 i hii
      obtain ⟨q0, q1, q2, q3, q4⟩ := S.out.lx.c1 (i := i) (by omega)
      have zf := S.out.lx.r1.frozen
      have PUT0 := S.out.put1 HG.out i (X i) hin (by omega)
      rw [tillN_succ Y X i] at PUT0
      have PUT := Lib.hid (PUT0.quiet ((Only.refl (fun _ => False) _).drew))
      clear PUT0
      generalize hxi : X i = x at q0 q1 q2 q3 q4 p0 p1 p2 p3 p4 PUT
      generalize tillN Y X i i = y at q0 q1 q2 q3 q4
      clear S hin hxi
      go_upto_region 4 with fail
      go_region
      all_goals go_wp2_with fail
      go_roundg j
      case rel => exact ⟨i + 1, by go_num, by omega, PUT⟩
      case measure => omega
    · have hii2 : i = ni := by omega
      have S1 : Hid (KS w wr G F A ni ci X B nf cf Fs m b1 k1 b2 k2 m2 (tillN Y X ni) (tillN Gs Fs 0)) := by
        rw [tillN_zero, ← hii2]; exact hii2 ▸ S.out
      have hd : ¬ (i : Int) < (ni : Int) := by omega
      clear S
      go_upto_region 5 with fail
      clear x0 y0
      go_wp2_with fail
      go_loopg [5] (nf) (fun gk iv wx => ∃ i : Nat, iv = .int .i64 (i : Int) ∧ i + gk = nf ∧ Hid (KS w wx G F A ni ci X B nf cf Fs m b1 k1 b2 k2 m2 (tillN Y X ni) (tillN Gs Fs i)))
      case atStart => exact ⟨0, rfl, by omega, S1⟩
      case round =>
        clear S1 hd hii2
        obtain ⟨i, rfl, hig2, S⟩ := hrel
        have x0 := S.out.bx.cell 1
        have y0 := S.out.bc.cell 1
        simp only [List.getElem?_toArray, List.getElem?_cons_zero, List.getElem?_cons_succ] at x0 y0
        by_cases hii : i < nf
        · obtain ⟨j, rfl⟩ : ∃ j, gk = j + 1 := ⟨gk - 1, by omega⟩
          obtain ⟨hin, hsz, b, off, rfl, _, hbl, p0, p1, p2, p3, p4⟩ := S.out.fl.2 i hii
          obtain ⟨q0, q1, q2, q3, q4⟩ := S.out.lx.c2 (i := i) (by omega)
          have zf := S.out.lx.r2.frozen
          have PUT0 := S.out.put2 HG.out i (Fs i) ⟨hin, hsz⟩ (by omega)
          rw [tillN_succ Gs Fs i] at PUT0
          have PUT := Lib.hid (PUT0.quiet ((Only.refl (fun _ => False) _).drew))
          clear PUT0
          generalize hxi : Fs i = x at q0 q1 q2 q3 q4 p0 p1 p2 p3 p4 PUT
          generalize tillN Gs Fs i i = y at q0 q1 q2 q3 q4
          clear S hin hsz hxi
          go_upto_region 8 with fail
          go_region
          all_goals go_wp2_with fail
          go_roundg j
          case rel => exact ⟨i + 1, by go_num, by omega, PUT⟩
          case measure => omega
        · have hii2 : i = nf := by omega
          have S2 : Hid (LX wr F b1 k1 b2 k2 ni nf (tillN Y X ni) (tillN Gs Fs nf) ∧ Only (fun b => b = b1 ∨ b = b2) w wr) := by
            rw [← hii2]; exact ⟨hii2 ▸ S.out.lx, S.out.only⟩
          have hd : ¬ (i : Int) < (nf : Int) := by omega
          clear S
          go_wp2_with fail
          go_end0
          exact ⟨rfl, S2.out⟩
/-- Small enough to be played. -/
structure Fits (w wx : World) (G : Nat → Prop) (A : Option Addr) (ni ci : Nat) (B : Option Addr) (nf cf : Nat) (Fs : Nat → Fn) (m : Int) : Prop where
  bc : Blk wx w.heap.size 25 #[.slice A ni ci, .slice B nf cf, .int .i64 m]
  fl : FL wx G B nf Fs
  only : Only (fun _ => False) w wx
def FitsPost (w : World) (k nf : Nat) (e : Ending) (w' : World) : Prop := ∃ r, e = .returned (.bool r) ∧ (r = true → k ≤ 20000 ∧ nf ≤ 1000) ∧ Below w.heap.size w w'
set_option maxRecDepth 100000 in
set_option maxHeartbeats 8000000 in
theorem fits_c (w : World) (G : Nat → Prop) (A : Option Addr) (ni ci : Nat) (B : Option Addr) (nf cf : Nat) (Fs : Nat → Fn) (m : Int) (hf : FL w G B nf Fs) (NA : Option Addr) (n nc : Nat) (hn : (ni : Int) + (n : Int) ≤ 9223372036854775807) :
    Calls Try.prog 11 #[codeV A ni ci B nf cf m, .slice NA n nc] w (FitsPost w (ni + n) nf) := by
  have S0 : Hid (Fits w (w.alloc (.cells #[.slice A ni ci, .slice B nf cf, .int .i64 m] 25)) G A ni ci B nf cf Fs m) := by
    have o : Only (fun _ => False) w (w.alloc (.cells #[.slice A ni ci, .slice B nf cf, .int .i64 m] 25)) := (Only.refl _ w).alloc _
    exact ⟨blk_at rfl, hf.tr o fun _ _ h => ⟨fun h => h, h⟩, o⟩
  have hnf := hf.1
  clear hf
  unfold codeV
  go_enter Try.func11, Try.ntmps11
  go_upto_region 1 with fail
  generalize World.alloc w _ = w0 at *
  have y0 := S0.out.bc.cell 0
  have y1 := S0.out.bc.cell 1
  simp only [List.getElem?_toArray, List.getElem?_cons_zero, List.getElem?_cons_succ] at y0 y1
  have BEL := Lib.hid (S0.out.only.toBelow (Nat.le_refl _) fun _ _ h => h)
  go_upto_region 2 with fail
  go_wp2_with fail
  go_loopg [5, 6] (nf) (fun gk nv iv wx => ∃ (x : Int) (i : Nat), nv = .int .i64 x ∧ iv = .int .i64 (i : Int) ∧ i + gk = nf ∧ (ni : Int) + (n : Int) ≤ x ∧ x ≤ 9223372036854775807 ∧ wx = w0)
  case atStart => exact ⟨(ni : Int) + n, 0, rfl, rfl, by omega, by omega, by omega, rfl⟩
  case round =>
    obtain ⟨x, i, rfl, rfl, hig, hx0, hx1, rfl⟩ := hrel
    by_cases hii : i < nf ∧ x ≤ 20000
    · obtain ⟨hi1, hi2⟩ := hii
      obtain ⟨j, rfl⟩ : ∃ j, gk = j + 1 := ⟨gk - 1, by omega⟩
      obtain ⟨hin, hsz, b, off, rfl, _, hbl, p0, p1, p2, p3, p4⟩ := S0.out.fl.2 i hi1
      generalize (Fs i).name = s at *
      have hq : ((s.size : Int)).tdiv 64 = (s.size : Int) / 64 := Int.tdiv_eq_ediv_of_nonneg (by omega)
      clear hin p1 p2 p3 p4 hq
      go_wp2_with fail
      go_roundg j
      case rel => exact ⟨x + 1 + (s.size : Int) / 64, i + 1, rfl, by go_num, by omega, by omega, by omega, rfl⟩
      case measure => omega
    · by_cases hx2 : x ≤ 20000
      · have hd : ¬ (i : Int) < (nf : Int) := by omega
        by_cases hnf2 : nf ≤ 1000
        · have hnf3 : decide ((nf : Int) ≤ 1000) = true := decide_eq_true (by omega)
          go_wp2_with fail
          go_ret
          exact ⟨true, rfl, fun _ => ⟨by omega, hnf2⟩, BEL.out⟩
        · have hnf3 : decide ((nf : Int) ≤ 1000) = false := decide_eq_false (by omega)
          go_wp2_with fail
          go_ret
          exact ⟨false, rfl, (fun h => by cases h), BEL.out⟩
      · have hx3 : decide (x ≤ 20000) = false := decide_eq_false hx2
        by_cases hd : i < nf
        · go_wp2_with fail
          go_ret
          exact ⟨false, rfl, (fun h => by cases h), BEL.out⟩
        · have hd2 : ¬ (i : Int) < (nf : Int) := by omega
          go_wp2_with fail
          go_ret
          exact ⟨false, rfl, (fun h => by cases h), BEL.out⟩
end Go.Proofs.Ytkjfbojmkkdgoaa
