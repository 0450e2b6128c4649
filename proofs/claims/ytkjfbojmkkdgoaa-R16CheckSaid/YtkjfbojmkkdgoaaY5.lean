/- R16Check: the walk. -/
import Derived.Test.YtkjfbojmkkdgoaaY4
import Derived.Test.YtkjfbojmkkdgoaaA13
import Derived.Test.YtkjfbojmkkdgoaaL3
set_option linter.unusedVariables false
set_option linter.unusedSimpArgs false
namespace Go.Proofs.Ytkjfbojmkkdgoaa
open Go.RowKit
attribute [local go_sem ↓] Go.wp_at_zero Go.wp_at_succ
theorem codeOk_congr {ni : Nat} {X Y : Nat → Ins} {nf : Nat} {Fs Gs : Nat → Fn} {m : Int} (hX : ∀ i, i < ni → X i = Y i) (hF : ∀ i, i < nf → Fs i = Gs i) (h : CodeOk ni X nf Fs m) : CodeOk ni Y nf Gs m := by
  have fo : ∀ k, k ≤ nf → firstOf Fs k = firstOf Gs k := by
    intro k
    induction k with
    | zero => intro _; rfl
    | succ k ih => intro hk; unfold firstOf; rw [ih (by omega), hF k (by omega)]
  obtain ⟨h1, h2, h3, h4, h5⟩ := h
  have fl : ∀ k, k ≤ nf → 0 ≤ firstOf Fs k ∧ firstOf Fs k ≤ (ni : Int) := by
    intro k
    induction k with
    | zero => intro _; unfold firstOf; omega
    | succ k ih =>
      intro hk
      have a := ih (by omega)
      have b := h1 k (by omega)
      have := b.2.1
      have := b.2.2.1
      unfold firstOf
      omega
  refine ⟨fun k hk => ?_, by rw [← fo nf (Nat.le_refl _)]; exact h2, h3, h4, by rw [← hF m.toNat (by omega)]; exact h5⟩
  obtain ⟨o1, o2, o3, o4, o5, o6, o7, o8, o9, o10, o11⟩ := h1 k hk
  have l := fl k (by omega)
  unfold OneOk
  rw [← hF k hk, ← fo k (by omega)]
  refine ⟨o1, o2, o3, fun j hj => by rw [← hF j (by omega)]; exact o4 j hj, o5, o6, o7, o8, o9, fun j hj => ?_, ?_⟩
  · rw [← hX _ (by omega)]; exact o10 j hj
  · rw [← hX _ (by omega)]; exact o11
theorem oth_no (ni : Nat) (X : Nat → Ins) (nf : Nat) (Fs : Nat → Fn) (m : Int) (h : ∀ i, i < nf → Fs i = othF) : ¬ CodeOk ni X nf Fs m := fun ⟨h1, h2, h3, h4, h5⟩ => by
  have hn : 0 < nf := by omega
  have := (h1 0 hn).2.2.2.2.2.1
  rw [h 0 hn] at this
  exact absurd this (by decide)
/-- Code, by what Check asks. -/
theorem check_l (w : World) (G : Nat → Prop) (A : Option Addr) (ni ci : Nat) (X : Nat → Ins) (B : Option Addr) (nf cf : Nat) (Fs : Nat → Fn) (m : Int) (hi : IL w G A ni X) (hci : ni ≤ ci) (hf : FL w G B nf Fs) (hm : i64in m) (hnf : nf ≤ 1000000) :
    Calls Try.prog 15 #[codeV A ni ci B nf cf m] w (CheckPost ni X nf Fs m w) :=
  check_c w (fun b => b < w.heap.size) (fun _ h => h) A ni ci X B nf cf Fs m (hi.tr (Only.refl (fun _ => False) w) fun b hb _ => ⟨fun h => h, hb⟩) hci (hf.tr (Only.refl (fun _ => False) w) fun b hb _ => ⟨fun h => h, hb⟩) hm hnf
structure CK (w wx : World) (A : Option Addr) (ni ci : Nat) (X : Nat → Ins) (B : Option Addr) (nf cf : Nat) (Fs : Nat → Fn) (m : Int) : Prop where
  bc : Blk wx w.heap.size 25 #[.slice A ni ci, .slice B nf cf, .int .i64 m]
  il : IL wx (fun b => b < w.heap.size) A ni X
  fl : FL wx (fun b => b < w.heap.size) B nf Fs
  only : Only (fun _ => False) w wx
theorem CK.tr {w wx wy : World} {A : Option Addr} {ni ci : Nat} {X : Nat → Ins} {B : Option Addr} {nf cf : Nat} {Fs : Nat → Fn} {m : Int} {F : Nat → Prop} (h : CK w wx A ni ci X B nf cf Fs m) (o : Only F wx wy) (hF : ∀ b, F b → w.heap.size < b) : CK w wy A ni ci X B nf cf Fs m :=
  ⟨h.bc.only o fun e => by have := hF _ e; omega, h.il.tr o fun b _ hb => ⟨fun e => by have := hF _ e; have h3 : b < w.heap.size := hb; omega, hb⟩, h.fl.tr o fun b _ hb => ⟨fun e => by have := hF _ e; have h3 : b < w.heap.size := hb; omega, hb⟩, h.only.trans o fun b hb e => by have := hF _ e; omega⟩
theorem CK.quiet {w wx wy : World} {A : Option Addr} {ni ci : Nat} {X : Nat → Ins} {B : Option Addr} {nf cf : Nat} {Fs : Nat → Fn} {m : Int} (h : CK w wx A ni ci X B nf cf Fs m) (o : Only (fun _ => False) wx wy) : CK w wy A ni ci X B nf cf Fs m := h.tr o fun _ h => h.elim
/-- And the lent one. -/
structure CX (w wx : World) (s : Nat) (A : Option Addr) (ni ci : Nat) (X : Nat → Ins) (B : Option Addr) (nf cf : Nat) (Fs : Nat → Fn) (m : Int) (bx b1 k1 b2 k2 : Nat) (Y : Nat → Ins) (Gs : Nat → Fn) : Prop where
  ck : CK w wx A ni ci X B nf cf Fs m
  bk : Blk wx bx 25 #[.slice (some ⟨b1, 0, none⟩) ni k1, .slice (some ⟨b2, 0, none⟩) nf k2, .int .i64 m]
  lx : LX wx (fun b => s ≤ b) b1 k1 b2 k2 ni nf Y Gs
  s_ : w.heap.size < s
  k1_ : ni + 1 ≤ k1
  k2_ : nf + 1 ≤ k2
section
variable {w wx wy : World} {s : Nat} {A : Option Addr} {ni ci : Nat} {X : Nat → Ins} {B : Option Addr} {nf cf : Nat} {Fs : Nat → Fn} {m : Int} {bx b1 k1 b2 k2 : Nat} {Y : Nat → Ins} {Gs : Nat → Fn}
theorem CX.quiet (h : CX w wx s A ni ci X B nf cf Fs m bx b1 k1 b2 k2 Y Gs) (o : Only (fun _ => False) wx wy) : CX w wy s A ni ci X B nf cf Fs m bx b1 k1 b2 k2 Y Gs :=
  ⟨h.ck.quiet o, h.bk.only o fun h => h, h.lx.only o fun _ _ h => h, h.s_, h.k1_, h.k2_⟩
theorem CX.bs (h : CX w wx s A ni ci X B nf cf Fs m bx b1 k1 b2 k2 Y Gs) : s ≤ b1 ∧ s ≤ b2 := ⟨h.lx.r1.2 b1 rfl, h.lx.r2.2 b2 rfl⟩
theorem CX.turn {Y' : Nat → Ins} {Gs' : Nat → Fn} (h : CX w wx s A ni ci X B nf cf Fs m bx b1 k1 b2 k2 Y Gs) (o : Only (fun b => b = b1 ∨ b = b2) wx wy) (l : LX wy (fun b => s ≤ b) b1 k1 b2 k2 ni nf Y' Gs') : CX w wy s A ni ci X B nf cf Fs m bx b1 k1 b2 k2 Y' Gs' := by
  have hb := h.bs
  have hs := h.s_
  refine ⟨h.ck.tr o fun b e => by omega, h.bk.only o fun e => ?_, l, hs, h.k1_, h.k2_⟩
  rcases e with e | e
  · exact own_blk_ne h.lx.r1.1 h.bk (by decide) (congrArg some e.symm)
  · exact own_blk_ne h.lx.r2.1 h.bk (by decide) (congrArg some e.symm)
theorem CX.hG (h : CX w wx s A ni ci X B nf cf Fs m bx b1 k1 b2 k2 Y Gs) : ∀ b, (fun b => b < w.heap.size) b → b ≠ b1 ∧ b ≠ b2 := fun b e => by
  have hb := h.bs
  have hs := h.s_
  have e' : b < w.heap.size := e
  omega
theorem CX.check (h : CX w wx s A ni ci X B nf cf Fs m bx b1 k1 b2 k2 Y Gs) (hm : i64in m) (hnf : nf ≤ 1000000) : Calls Try.prog 15 #[.agg #[.slice (some ⟨b1, 0, none⟩) ni k1, .slice (some ⟨b2, 0, none⟩) nf k2, .int .i64 m]] wx (CheckPost ni Y nf Gs m wx) :=
  check_l wx _ _ ni k1 Y _ nf k2 Gs m h.lx.il (by have := h.k1_; omega) h.lx.fl hm hnf
end
set_option maxRecDepth 100000 in
set_option maxHeartbeats 8000000 in
theorem r16check_c (w : World) (A : Option Addr) (ni ci : Nat) (X : Nat → Ins) (B : Option Addr) (nf cf : Nat) (Fs : Nat → Fn) (m : Int) (hci : ni ≤ ci) (hcf : nf ≤ cf) (hm : i64in m) (hi : IL w (fun b => b < w.heap.size) A ni X) (hf : FL w (fun b => b < w.heap.size) B nf Fs) :
    Calls Try.prog 3 #[codeV A ni ci B nf cf m] w fun e w' => e = .returned (.bool true) ∧ Below w.heap.size w w' := by
  have S0 : Hid (CK w (w.alloc (.cells #[.slice A ni ci, .slice B nf cf, .int .i64 m] 25)) A ni ci X B nf cf Fs m) := by
    have o : Only (fun _ => False) w (w.alloc (.cells #[.slice A ni ci, .slice B nf cf, .int .i64 m] 25)) := (Only.refl _ w).alloc _
    exact ⟨blk_at rfl, hi.tr o fun _ _ h => ⟨fun h => h, h⟩, hf.tr o fun _ _ h => ⟨fun h => h, h⟩, o⟩
  have hni := hi.1
  clear hi hf
  unfold codeV
  go_enter Try.func3, Try.ntmps3
  go_upto_region 1 with fail
  generalize World.alloc w _ = w0 at *
  have y0 := S0.out.bc.cell 0
  have y1 := S0.out.bc.cell 1
  have y2 := S0.out.bc.cell 2
  simp only [List.getElem?_toArray, List.getElem?_cons_zero, List.getElem?_cons_succ] at y0 y1 y2
  have FC := Lib.hid (fits_c w0 _ A ni ci B nf cf Fs m S0.out.fl none 0 0 (by omega))
  go_wp2_with fail
  refine FC.out.mono ?_
  rintro e w1 ⟨r, rfl, hr, b1⟩
  have S1 := Lib.hid (S0.out.quiet (Only.ofBelow b1))
  clear S0 FC b1 y0 y1 y2
  cases r with
  | false =>
    go_wp2_with fail
    go_ret
    exact ⟨rfl, S1.out.only.toBelow (Nat.le_refl _) fun _ _ h => h⟩
  | true =>
    obtain ⟨h1, h2⟩ := hr rfl
    clear hr
    go_wp2_with fail
    refine (alive_c w1).mono ?_
    rintro e w2 ⟨rfl, b2⟩
    have S2 := Lib.hid (S1.out.quiet (Only.ofBelow b2))
    clear S1 b2
    have y0 := S2.out.bc.cell 0
    have y1 := S2.out.bc.cell 1
    have y2 := S2.out.bc.cell 2
    simp only [List.getElem?_toArray, List.getElem?_cons_zero, List.getElem?_cons_succ] at y0 y1 y2
    have DC := Lib.hid (dcheck_c w2 _ A ni ci X B nf cf Fs m S2.out.il hci S2.out.fl hcf hm (by omega))
    go_wp2_with fail
    refine DC.out.mono ?_
    rintro e w3 ⟨want, rfl, hwant, b3⟩
    have HWANT := Lib.hid hwant
    have S3 := Lib.hid (S2.out.quiet (Only.ofBelow b3))
    clear S2 b3 hwant y0 y1 y2 DC
    have y0 := S3.out.bc.cell 0
    have y1 := S3.out.bc.cell 1
    have y2 := S3.out.bc.cell 2
    simp only [List.getElem?_toArray, List.getElem?_cons_zero, List.getElem?_cons_succ] at y0 y1 y2
    have hlt := S3.out.bc.lt
    have LC := Lib.hid (lent_c w3 _ (fun b h => by have h3 : b < w.heap.size := h; omega) A ni ci X B nf cf Fs m S3.out.il S3.out.fl (by omega) (by omega))
    go_upto_region 6 with (go_at_call 14; refine LC.out.mono ?_; rintro e w4 ⟨b1, k1, b2, k2, rfl, lx, ⟨hk1, hk2⟩, b4⟩; unfold codeV)
    have S5 : Hid (CX w (w4.alloc (.cells #[.slice (some ⟨b1, 0, none⟩) ni k1, .slice (some ⟨b2, 0, none⟩) nf k2, .int .i64 m] 25)) w3.heap.size A ni ci X B nf cf Fs m w4.heap.size b1 k1 b2 k2 (updN X ni markI) (updN Fs nf markF)) := by
      have o : Only (fun _ => False) w4 (w4.alloc (.cells #[.slice (some ⟨b1, 0, none⟩) ni k1, .slice (some ⟨b2, 0, none⟩) nf k2, .int .i64 m] 25)) := (Only.refl _ w4).alloc _
      exact ⟨(S3.out.quiet (Only.ofBelow b4)).quiet o, blk_at rfl, lx.only o fun _ _ h => h, hlt, hk1, hk2⟩
    clear S3 lx b4 y0 y1 y2 LC hk1 hk2
    generalize World.alloc w4 _ = w5 at *
    generalize w4.heap.size = bx at *
    generalize w3.heap.size = s at *
    have x0 := S5.out.bk.cell 0
    have x1 := S5.out.bk.cell 1
    have x2 := S5.out.bk.cell 2
    simp only [List.getElem?_toArray, List.getElem?_cons_zero, List.getElem?_cons_succ] at x0 x1 x2
    have CC := Lib.hid (S5.out.check hm (by omega))
    go_upto_region 7 with (go_at_call 15; refine CC.out.mono ?_; rintro e w6 ⟨e1, rfl, he1, b6⟩)
    have E1 : Hid (e1 = want) := by
      have key : CodeOk ni (updN X ni markI) nf (updN Fs nf markF) m ↔ CodeOk ni X nf Fs m := ⟨codeOk_congr (fun i hi => updN_ne _ _ (by omega)) (fun i hi => updN_ne _ _ (by omega)), codeOk_congr (fun i hi => (updN_ne X markI (show i ≠ ni by omega)).symm) (fun i hi => (updN_ne Fs markF (show i ≠ nf by omega)).symm)⟩
      show e1 = want
      rcases he1 with ⟨a, b⟩ | ⟨a, b⟩ <;> rcases HWANT.out with ⟨c, d⟩ | ⟨c, d⟩
      · rw [a, c]
      · exact absurd (key.1 b) d
      · exact absurd (key.2 d) b
      · rw [a, c]
    have S6 := Lib.hid (S5.out.quiet (Only.ofBelow b6))
    clear S5 b6 he1 CC x0 x1 x2
    have x0 := S6.out.bk.cell 0
    have x1 := S6.out.bk.cell 1
    have x2 := S6.out.bk.cell 2
    have y0 := S6.out.ck.bc.cell 0
    have y1 := S6.out.ck.bc.cell 1
    have y2 := S6.out.ck.bc.cell 2
    simp only [List.getElem?_toArray, List.getElem?_cons_zero, List.getElem?_cons_succ] at x0 x1 x2 y0 y1 y2
    have KC := Lib.hid (kept_c w6 _ _ A ni ci X B nf cf Fs m b1 k1 b2 k2 m S6.out.ck.il hci S6.out.ck.fl S6.out.lx S6.out.hG S6.out.k1_ S6.out.k2_)
    go_upto_region 8 with (go_at_call 16; refine KC.out.mono ?_; rintro e w7 ⟨rfl, lx7, o7⟩)
    have S7 := Lib.hid (S6.out.turn o7 lx7)
    clear S6 lx7 o7 KC x0 x1 x2 y0 y1 y2
    have x0 := S7.out.bk.cell 0
    have x1 := S7.out.bk.cell 1
    have x2 := S7.out.bk.cell 2
    simp only [List.getElem?_toArray, List.getElem?_cons_zero, List.getElem?_cons_succ] at x0 x1 x2
    have CC := Lib.hid (S7.out.check hm (by omega))
    go_upto_region 9 with (go_at_call 15; refine CC.out.mono ?_; rintro e w8 ⟨e2, rfl, he2, b8⟩)
    have E2 : Hid (e2 = 210) := by
      show e2 = 210
      rcases he2 with ⟨a, b⟩ | ⟨a, b⟩
      · exact absurd b (oth_no _ _ _ _ _ fun i hi => updN_ne _ _ (by omega))
      · exact a
    have S8 := Lib.hid (S7.out.quiet (Only.ofBelow b8))
    clear S7 b8 he2 CC x0 x1 x2
    have x0 := S8.out.bk.cell 0
    have x1 := S8.out.bk.cell 1
    have x2 := S8.out.bk.cell 2
    have y0 := S8.out.ck.bc.cell 0
    have y1 := S8.out.ck.bc.cell 1
    have y2 := S8.out.ck.bc.cell 2
    simp only [List.getElem?_toArray, List.getElem?_cons_zero, List.getElem?_cons_succ] at x0 x1 x2 y0 y1 y2
    have LC := Lib.hid (fill_c w8 _ _ A ni ci X B nf cf Fs m b1 k1 b2 k2 m _ _ S8.out.ck.il S8.out.ck.fl S8.out.lx S8.out.hG S8.out.k1_ S8.out.k2_)
    go_upto_region 10 with (go_at_call 17; refine LC.out.mono ?_; rintro e w9 ⟨rfl, lx9, o9⟩)
    have S9 := Lib.hid (S8.out.turn o9 lx9)
    clear S8 lx9 o9 LC x0 x1 x2 y0 y1 y2
    have x0 := S9.out.bk.cell 0
    have x1 := S9.out.bk.cell 1
    have x2 := S9.out.bk.cell 2
    simp only [List.getElem?_toArray, List.getElem?_cons_zero, List.getElem?_cons_succ] at x0 x1 x2
    have CC := Lib.hid (S9.out.check hm (by omega))
    go_upto_region 11 with (go_at_call 15; refine CC.out.mono ?_; rintro e wa ⟨e3, rfl, he3, ba⟩)
    have E3 : Hid (e3 = want) := by
      have key : CodeOk ni (tillN (updN (fun _ => retI) ni markI) X ni) nf (tillN (updN (fun _ => othF) nf markF) Fs nf) m ↔ CodeOk ni X nf Fs m := ⟨codeOk_congr (fun i hi => if_pos hi) (fun i hi => if_pos hi), codeOk_congr (fun i hi => (if_pos hi).symm) (fun i hi => (if_pos hi).symm)⟩
      show e3 = want
      rcases he3 with ⟨a, b⟩ | ⟨a, b⟩ <;> rcases HWANT.out with ⟨c, d⟩ | ⟨c, d⟩
      · rw [a, c]
      · exact absurd (key.1 b) d
      · exact absurd (key.2 d) b
      · rw [a, c]
    have Sa := Lib.hid (S9.out.quiet (Only.ofBelow ba))
    clear S9 ba he3 CC x0 x1 x2 HWANT
    have e1' := E1.out
    have e2' := E2.out
    have e3' := E3.out
    clear E1 E2 E3
    subst e1' e2' e3'
    go_wp2_with (go_at_call 18; refine (num_c _ _).mono ?_; rintro e w9 ⟨rfl, hw9⟩; subst hw9)
    go_ret
    exact ⟨rfl, Sa.out.ck.only.toBelow (Nat.le_refl _) fun _ _ h => h⟩
end Go.Proofs.Ytkjfbojmkkdgoaa
