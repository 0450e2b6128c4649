/- kept: lent code is as it was; then it is written over. -/
import Derived.Test.YtkjfbojmkkdgoaaY2
import Derived.BigQuiet
import Derived.Deep.DeepCutAuto
set_option linter.unusedVariables false
set_option linter.unusedSimpArgs false
namespace Go.Proofs.Ytkjfbojmkkdgoaa
open Go.RowKit
attribute [local go_sem ↓] Go.wp_at_zero Go.wp_at_succ
def retI : Ins := ⟨35, 0, 0, 0, 1⟩
def othF : Fn := ⟨⟨#[111, 116, 104, 101, 114]⟩, 0, 0, 0, 0⟩
theorem retI_in : InsIn retI := ⟨⟨by decide, by decide⟩, in_0, in_0, in_0, in_1⟩
theorem othF_in : FnIn othF ∧ othF.name.size ≤ 9223372036854775807 := ⟨⟨in_0, in_0, in_0, in_0⟩, (by decide : (5 : Nat) ≤ 9223372036854775807)⟩
def tillN {α : Type} (X Y : Nat → α) (j i : Nat) : α := if i < j then Y i else X i
theorem tillN_zero {α : Type} (X Y : Nat → α) : tillN X Y 0 = X := by funext i; exact if_neg (Nat.not_lt_zero _)
theorem tillN_at {α : Type} (X Y : Nat → α) (j : Nat) : tillN X Y j j = X j := if_neg (Nat.lt_irrefl _)
theorem tillN_succ {α : Type} (X Y : Nat → α) (j : Nat) : updN (tillN X Y j) j (Y j) = tillN X Y (j + 1) := by
  funext i
  unfold updN tillN
  by_cases h : i = j
  · subst h; rw [if_pos rfl, if_pos (by omega)]
  · rw [if_neg h]
    by_cases h2 : i < j
    · rw [if_pos h2, if_pos (by omega)]
    · rw [if_neg h2, if_neg (by omega)]
/-- What stands while it is looked at. -/
structure KS (w wx : World) (G : Nat → Prop) (F : Nat → Prop) (A : Option Addr) (ni ci : Nat) (X : Nat → Ins) (B : Option Addr) (nf cf : Nat) (Fs : Nat → Fn) (m : Int) (b1 k1 b2 k2 : Nat) (m2 : Int) (Y : Nat → Ins) (Gs : Nat → Fn) : Prop where
  bx : Blk wx w.heap.size 25 #[.slice (some ⟨b1, 0, none⟩) ni k1, .slice (some ⟨b2, 0, none⟩) nf k2, .int .i64 m2]
  bc : Blk wx (w.heap.size + 1) 25 #[.slice A ni ci, .slice B nf cf, .int .i64 m]
  lx : LX wx F b1 k1 b2 k2 ni nf Y Gs
  il : IL wx G A ni X
  fl : FL wx G B nf Fs
  only : Only (fun b => b = b1 ∨ b = b2) w wx
section
variable {w wx wy : World} {G F : Nat → Prop} {A : Option Addr} {ni ci : Nat} {X : Nat → Ins} {B : Option Addr} {nf cf : Nat} {Fs : Nat → Fn} {m : Int} {b1 k1 b2 k2 : Nat} {m2 : Int} {Y : Nat → Ins} {Gs : Nat → Fn}
theorem KS.quiet (h : KS w wx G F A ni ci X B nf cf Fs m b1 k1 b2 k2 m2 Y Gs) (o : Only (fun _ => False) wx wy) : KS w wy G F A ni ci X B nf cf Fs m b1 k1 b2 k2 m2 Y Gs :=
  ⟨h.bx.only o fun h => h, h.bc.only o fun h => h, h.lx.only o fun _ _ h => h, h.il.tr o fun _ _ h => ⟨fun h => h, h⟩, h.fl.tr o fun _ _ h => ⟨fun h => h, h⟩, h.only.trans o fun _ _ h => h.elim⟩
theorem KS.start (hx : LX w F b1 k1 b2 k2 ni nf Y Gs) (hi : IL w G A ni X) (hf : FL w G B nf Fs) (m2 : Int) (ci cf : Nat) (m : Int) : KS w ((w.alloc (.cells #[.slice (some ⟨b1, 0, none⟩) ni k1, .slice (some ⟨b2, 0, none⟩) nf k2, .int .i64 m2] 25)).alloc (.cells #[.slice A ni ci, .slice B nf cf, .int .i64 m] 25)) G F A ni ci X B nf cf Fs m b1 k1 b2 k2 m2 Y Gs := by
  have o : Only (fun _ => False) w ((w.alloc (.cells #[.slice (some ⟨b1, 0, none⟩) ni k1, .slice (some ⟨b2, 0, none⟩) nf k2, .int .i64 m2] 25)).alloc (.cells #[.slice A ni ci, .slice B nf cf, .int .i64 m] 25)) := ((Only.refl _ w).alloc _).alloc _
  exact ⟨(blk_at rfl).alloc _, blk_at (by simp), hx.only o fun _ _ h => h, hi.tr o fun _ _ h => ⟨fun h => h, h⟩, hf.tr o fun _ _ h => ⟨fun h => h, h⟩, o.mono fun _ _ h => h.elim⟩
theorem KS.lt1 (h : KS w wx G F A ni ci X B nf cf Fs m b1 k1 b2 k2 m2 Y Gs) : b1 < wx.heap.size ∧ b2 < wx.heap.size := ⟨h.lx.r1.lt rfl, h.lx.r2.lt rfl⟩
theorem KS.ne (h : KS w wx G F A ni ci X B nf cf Fs m b1 k1 b2 k2 m2 Y Gs) : w.heap.size ≠ b1 ∧ w.heap.size ≠ b2 ∧ w.heap.size + 1 ≠ b1 ∧ w.heap.size + 1 ≠ b2 :=
  ⟨fun e => own_blk_ne h.lx.r1.1 h.bx (by decide) (congrArg some e.symm), fun e => own_blk_ne h.lx.r2.1 h.bx (by decide) (congrArg some e.symm), fun e => own_blk_ne h.lx.r1.1 h.bc (by decide) (congrArg some e.symm), fun e => own_blk_ne h.lx.r2.1 h.bc (by decide) (congrArg some e.symm)⟩
theorem KS.put1 (h : KS w wx G F A ni ci X B nf cf Fs m b1 k1 b2 k2 m2 Y Gs) (hG : ∀ b, G b → b ≠ b1 ∧ b ≠ b2) (k : Nat) (x : Ins) (hx : InsIn x) (hk : k < ni + 1) : KS w (((((wx.setCell ⟨b1, k * 5, none⟩ (.int .i64 x.op)).setCell ⟨b1, k * 5 + 1, none⟩ (.int .i64 x.a)).setCell ⟨b1, k * 5 + 2, none⟩ (.int .i64 x.b)).setCell ⟨b1, k * 5 + 3, none⟩ (.int .i64 x.c)).setCell ⟨b1, k * 5 + 4, none⟩ (.int .i64 x.n)) G F A ni ci X B nf cf Fs m b1 k1 b2 k2 m2 (updN Y k x) Gs := by
  have o := (((((Only.refl (fun b => b = b1 ∨ b = b2) wx).cells (p := ⟨b1, k * 5, none⟩) (.inl rfl) (.int .i64 x.op)).cells (p := ⟨b1, k * 5 + 1, none⟩) (.inl rfl) (.int .i64 x.a)).cells (p := ⟨b1, k * 5 + 2, none⟩) (.inl rfl) (.int .i64 x.b)).cells (p := ⟨b1, k * 5 + 3, none⟩) (.inl rfl) (.int .i64 x.c)).cells (p := ⟨b1, k * 5 + 4, none⟩) (.inl rfl) (.int .i64 x.n)
  have n := h.ne
  exact ⟨h.bx.only o (fun e => e.elim n.1 n.2.1), h.bc.only o (fun e => e.elim n.2.2.1 n.2.2.2), h.lx.put1 k x hx hk, h.il.tr o fun b _ hb => ⟨fun e => e.elim (hG b hb).1 (hG b hb).2, hb⟩, h.fl.tr o fun b _ hb => ⟨fun e => e.elim (hG b hb).1 (hG b hb).2, hb⟩, h.only.trans o fun _ _ h => h⟩
theorem KS.put2 (h : KS w wx G F A ni ci X B nf cf Fs m b1 k1 b2 k2 m2 Y Gs) (hG : ∀ b, G b → b ≠ b1 ∧ b ≠ b2) (k : Nat) (x : Fn) (hx : FnIn x ∧ x.name.size ≤ 9223372036854775807) (hk : k < nf + 1) : KS w (((((wx.setCell ⟨b2, k * 5, none⟩ (.string x.name)).setCell ⟨b2, k * 5 + 1, none⟩ (.int .i64 x.frame)).setCell ⟨b2, k * 5 + 2, none⟩ (.int .i64 x.first)).setCell ⟨b2, k * 5 + 3, none⟩ (.int .i64 x.count)).setCell ⟨b2, k * 5 + 4, none⟩ (.int .i64 x.params)) G F A ni ci X B nf cf Fs m b1 k1 b2 k2 m2 Y (updN Gs k x) := by
  have o := (((((Only.refl (fun b => b = b1 ∨ b = b2) wx).cells (p := ⟨b2, k * 5, none⟩) (.inr rfl) (.string x.name)).cells (p := ⟨b2, k * 5 + 1, none⟩) (.inr rfl) (.int .i64 x.frame)).cells (p := ⟨b2, k * 5 + 2, none⟩) (.inr rfl) (.int .i64 x.first)).cells (p := ⟨b2, k * 5 + 3, none⟩) (.inr rfl) (.int .i64 x.count)).cells (p := ⟨b2, k * 5 + 4, none⟩) (.inr rfl) (.int .i64 x.params)
  have n := h.ne
  exact ⟨h.bx.only o (fun e => e.elim n.1 n.2.1), h.bc.only o (fun e => e.elim n.2.2.1 n.2.2.2), h.lx.put2 k x hx hk, h.il.tr o fun b _ hb => ⟨fun e => e.elim (hG b hb).1 (hG b hb).2, hb⟩, h.fl.tr o fun b _ hb => ⟨fun e => e.elim (hG b hb).1 (hG b hb).2, hb⟩, h.only.trans o fun _ _ h => h⟩
theorem KS.congr {Y' : Nat → Ins} {Gs' : Nat → Fn} (h : KS w wx G F A ni ci X B nf cf Fs m b1 k1 b2 k2 m2 Y Gs) (h1 : ∀ i, i < ni + 1 → Y i = Y' i) (h2 : ∀ i, i < nf + 1 → Gs i = Gs' i) : KS w wx G F A ni ci X B nf cf Fs m b1 k1 b2 k2 m2 Y' Gs' :=
  ⟨h.bx, h.bc, h.lx.congr h1 h2, h.il, h.fl, h.only⟩
end
set_option maxRecDepth 100000 in
set_option maxHeartbeats 8000000 in
theorem kept_c (w : World) (G F : Nat → Prop) (A : Option Addr) (ni ci : Nat) (X : Nat → Ins) (B : Option Addr) (nf cf : Nat) (Fs : Nat → Fn) (m : Int) (b1 k1 b2 k2 : Nat) (m2 : Int) (hi : IL w G A ni X) (hci : ni ≤ ci) (hf : FL w G B nf Fs) (hx : LX w F b1 k1 b2 k2 ni nf (updN X ni markI) (updN Fs nf markF)) (hG : ∀ b, G b → b ≠ b1 ∧ b ≠ b2) (hk1 : ni + 1 ≤ k1) (hk2 : nf + 1 ≤ k2) :
    Calls Try.prog 16 #[codeV (some ⟨b1, 0, none⟩) ni k1 (some ⟨b2, 0, none⟩) nf k2 m2, codeV A ni ci B nf cf m] w fun e w' => e = .returned (.bool true) ∧ LX w' F b1 k1 b2 k2 ni nf (updN (fun _ => retI) ni markI) (updN (fun _ => othF) nf markF) ∧ Only (fun b => b = b1 ∨ b = b2) w w' := by
  have S0 := Lib.hid (KS.start hx hi hf m2 ci cf m)
  have HG := Lib.hid hG
  have hn1 := hx.n1
  have hn2 := hx.n2
  clear hi hf hx hG
  unfold codeV
  go_enter Try.func16, Try.ntmps16
  go_upto_region 1 with fail
  generalize World.alloc (World.alloc w _) _ = w0 at *
  have x0 := S0.out.bx.cell 0
  have x1 := S0.out.bx.cell 1
  have y0 := S0.out.bc.cell 0
  have y1 := S0.out.bc.cell 1
  have k0 := (S0.out.lx.c1 (i := ni) (by omega)).1
  have k2' := (S0.out.lx.c2 (i := nf) (by omega)).2.2.1
  rw [updN_eq] at k0 k2'
  simp only [List.getElem?_toArray, List.getElem?_cons_zero, List.getElem?_cons_succ] at x0 x1 y0 y1
  rw [show markI.op = -71 from rfl] at k0
  rw [show markF.first = -71 from rfl] at k2'
  have T0 : Hid (KS w w0 G F A ni ci X B nf cf Fs m b1 k1 b2 k2 m2 (tillN (updN X ni markI) (fun _ => retI) 0) (updN Fs nf markF)) := by rw [tillN_zero]; exact S0
  clear S0
  go_wp2_with fail
  clear x0 x1 y0 y1 k0 k2'
  go_loopg [7, 8] (ni) (fun gk okv iv wx => ∃ i : Nat, okv = .bool true ∧ iv = .int .i64 (i : Int) ∧ i + gk = ni ∧ Hid (KS w wx G F A ni ci X B nf cf Fs m b1 k1 b2 k2 m2 (tillN (updN X ni markI) (fun _ => retI) i) (updN Fs nf markF)))
  case atStart => exact ⟨0, rfl, rfl, by omega, T0⟩
  case round =>
    clear T0
    obtain ⟨i, rfl, rfl, hig, S⟩ := hrel
    have x0 := S.out.bx.cell 0
    have y0 := S.out.bc.cell 0
    simp only [List.getElem?_toArray, List.getElem?_cons_zero, List.getElem?_cons_succ] at x0 y0
    by_cases hii : i < ni
    · obtain ⟨j, rfl⟩ : ∃ j, gk = j + 1 := ⟨gk - 1, by omega⟩
      obtain ⟨hin, b, off, rfl, _, hbl, p0, p1, p2, p3, p4⟩ := S.out.il.2 i hii
      obtain ⟨q0, q1, q2, q3, q4⟩ := S.out.lx.c1 (i := i) (by omega)
      rw [tillN_at, updN_ne _ _ (by omega)] at q0 q1 q2 q3 q4
      have zf := S.out.lx.r1.frozen
      have PUT0 := fun n => (S.out.quiet (wy := wr.drewN n) ((Only.refl _ wr).drewN n)).put1 HG.out i retI retI_in (by omega)
      rw [tillN_succ (updN X ni markI) (fun _ => retI) i] at PUT0
      have PUT := Lib.hid PUT0
      clear PUT0
      generalize X i = x at q0 q1 q2 q3 q4 p0 p1 p2 p3 p4
      clear S hin
      go_upto_region 7 with fail
      go_quiet (fail)
      go_wp2_with fail
      go_roundg j
      case rel => exact ⟨i + 1, rfl, by go_num, by omega, PUT.out _⟩
      case measure => omega
    · have S1 : Hid (KS w wr G F A ni ci X B nf cf Fs m b1 k1 b2 k2 m2 (updN (fun _ => retI) ni markI) (tillN (updN Fs nf markF) (fun _ => othF) 0)) := by
        rw [tillN_zero]
        refine S.out.congr (fun k hk => ?_) fun _ _ => rfl
        unfold tillN updN
        by_cases h : k = ni
        · rw [if_neg (by omega), if_pos h, if_pos h]
        · rw [if_pos (by omega), if_neg h]
      have hd : ¬ (i : Int) < (ni : Int) := by omega
      clear S
      go_upto_region 9 with fail
      clear x0 y0
      go_wp2_with fail
      go_loopg [7, 9] (nf) (fun gk okv iv wx => ∃ i : Nat, okv = .bool true ∧ iv = .int .i64 (i : Int) ∧ i + gk = nf ∧ Hid (KS w wx G F A ni ci X B nf cf Fs m b1 k1 b2 k2 m2 (updN (fun _ => retI) ni markI) (tillN (updN Fs nf markF) (fun _ => othF) i)))
      case atStart => exact ⟨0, rfl, rfl, by omega, S1⟩
      case round =>
        clear S1 hd
        obtain ⟨i, rfl, rfl, hig2, S⟩ := hrel
        have x0 := S.out.bx.cell 1
        have y0 := S.out.bc.cell 1
        simp only [List.getElem?_toArray, List.getElem?_cons_zero, List.getElem?_cons_succ] at x0 y0
        by_cases hii : i < nf
        · obtain ⟨j, rfl⟩ : ∃ j, gk = j + 1 := ⟨gk - 1, by omega⟩
          obtain ⟨hin, hsz, b, off, rfl, _, hbl, p0, p1, p2, p3, p4⟩ := S.out.fl.2 i hii
          obtain ⟨q0, q1, q2, q3, q4⟩ := S.out.lx.c2 (i := i) (by omega)
          rw [tillN_at, updN_ne _ _ (by omega)] at q0 q1 q2 q3 q4
          have zf := S.out.lx.r2.frozen
          have PUT0 := fun n => (S.out.quiet (wy := wr.drewN n) ((Only.refl _ wr).drewN n)).put2 HG.out i othF othF_in (by omega)
          rw [tillN_succ (updN Fs nf markF) (fun _ => othF) i] at PUT0
          have PUT := Lib.hid PUT0
          clear PUT0
          generalize Fs i = x at q0 q1 q2 q3 q4 p0 p1 p2 p3 p4
          clear S hin hsz
          go_upto_region 12 with fail
          go_quiet (fail)
          go_wp2_with fail
          go_roundg j
          case rel => exact ⟨i + 1, rfl, by go_num, by omega, PUT.out _⟩
          case measure => omega
        · have S2 : Hid (LX wr F b1 k1 b2 k2 ni nf (updN (fun _ => retI) ni markI) (updN (fun _ => othF) nf markF) ∧ Only (fun b => b = b1 ∨ b = b2) w wr) := by
            refine ⟨S.out.lx.congr (fun _ _ => rfl) (fun k hk => ?_), S.out.only⟩
            unfold tillN updN
            by_cases h : k = nf
            · rw [if_neg (by omega), if_pos h, if_pos h]
            · rw [if_pos (by omega), if_neg h]
          have hd : ¬ (i : Int) < (nf : Int) := by omega
          clear S
          go_wp2_with fail
          go_ret
          exact ⟨rfl, S2.out⟩
end Go.Proofs.Ytkjfbojmkkdgoaa
