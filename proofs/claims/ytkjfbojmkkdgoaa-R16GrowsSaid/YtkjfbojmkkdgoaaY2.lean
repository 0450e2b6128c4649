/- lent: code in memory of its own. -/
import Derived.Test.YtkjfbojmkkdgoaaY1
import Derived.Test.YtkjfbojmkkdgoaaL1
import Derived.RegionTactic
import Derived.Deep.DeepCutAuto
set_option linter.unusedVariables false
set_option linter.unusedSimpArgs false
namespace Go.Proofs.Ytkjfbojmkkdgoaa
open Go.RowKit
attribute [local go_sem ↓] Go.wp_at_zero Go.wp_at_succ
def markI : Ins := ⟨-71, 0, 0, 0, 0⟩
def markF : Fn := ⟨⟨#[]⟩, 0, -71, 0, 0⟩
def ownF (v : Value) : Nat → Prop := fun b => v.ownBlock = some b
structure LQ (w wx : World) (A : Option Addr) (ni : Nat) (X : Nat → Ins) (B : Option Addr) (nf : Nat) (Fs : Nat → Fn) (cs ds : Array Value) (v1 : Value) (n1 : Nat) (x1 : List Value) (v2 : Value) (n2 : Nat) (x2 : List Value) : Prop where
  b0 : Blk wx w.heap.size 25 cs
  b1 : Blk wx (w.heap.size + 1) 25 ds
  il : IL wx (fun b => b < w.heap.size) A ni X
  fl : FL wx (fun b => b < w.heap.size) B nf Fs
  r1 : Row wx (fun b => w.heap.size ≤ b) 54 5 v1 n1 x1
  r2 : Row wx (fun b => w.heap.size ≤ b) 61 5 v2 n2 x2
  only : Only (fun _ => False) w wx
section
variable {w wx wy : World} {A : Option Addr} {ni : Nat} {X : Nat → Ins} {B : Option Addr} {nf : Nat} {Fs : Nat → Fn} {cs ds : Array Value} {v1 : Value} {n1 : Nat} {x1 : List Value} {v2 : Value} {n2 : Nat} {x2 : List Value}
theorem LQ.quiet (h : LQ w wx A ni X B nf Fs cs ds v1 n1 x1 v2 n2 x2) (o : Only (fun _ => False) wx wy) : LQ w wy A ni X B nf Fs cs ds v1 n1 x1 v2 n2 x2 :=
  ⟨h.b0.only o fun h => h, h.b1.only o fun h => h, h.il.tr o fun _ _ h => ⟨fun h => h, h⟩, h.fl.tr o fun _ _ h => ⟨fun h => h, h⟩, h.r1.tr o fun _ _ h => ⟨fun h => h, h⟩, h.r2.tr o fun _ _ h => ⟨fun h => h, h⟩, h.only.trans o fun _ _ h => h⟩
theorem LQ.own1 (h : LQ w wx A ni X B nf Fs cs ds v1 n1 x1 v2 n2 x2) : Row wx (ownF v1) 54 5 v1 n1 x1 := ⟨h.r1.1, fun _ hb => hb⟩
theorem LQ.own2 (h : LQ w wx A ni X B nf Fs cs ds v1 n1 x1 v2 n2 x2) : Row wx (ownF v2) 61 5 v2 n2 x2 := ⟨h.r2.1, fun _ hb => hb⟩
theorem LQ.app1 (h : LQ w wx A ni X B nf Fs cs ds v1 n1 x1 v2 n2 x2) (o : Only (ownF v1) wx wy) {v : Value} {n : Nat} {x : List Value} (r : Row wy (fun b => ownF v1 b ∨ wx.heap.size ≤ b) 54 5 v n x) : LQ w wy A ni X B nf Fs cs ds v n x v2 n2 x2 := by
  have hs := h.only.size
  have lo : ∀ b, ownF v1 b → w.heap.size ≤ b := fun b hb => h.r1.2 b hb
  refine ⟨h.b0.only o fun e => own_blk_ne h.r1.1 h.b0 (by decide) e, h.b1.only o fun e => own_blk_ne h.r1.1 h.b1 (by decide) e, h.il.tr o fun b _ hb => ⟨fun e => by have := lo b e; have h3 : b < w.heap.size := hb; omega, hb⟩, h.fl.tr o fun b _ hb => ⟨fun e => by have := lo b e; have h3 : b < w.heap.size := hb; omega, hb⟩, r.mono fun b _ hb => ?_, h.r2.only o fun b hb e => ?_, h.only.trans o fun b hb e => by have := lo b e; omega⟩
  · rcases hb with hb | hb
    · exact lo b hb
    · show w.heap.size ≤ b; omega
  · rcases h.r1.ne_type h.r2 (by decide) with h0 | h0
    · have e' : v1.ownBlock = some b := e
      rw [h0] at e'; cases e'
    · exact h0 (Eq.trans e hb.symm)
theorem LQ.app2 (h : LQ w wx A ni X B nf Fs cs ds v1 n1 x1 v2 n2 x2) (o : Only (ownF v2) wx wy) {v : Value} {n : Nat} {x : List Value} (r : Row wy (fun b => ownF v2 b ∨ wx.heap.size ≤ b) 61 5 v n x) : LQ w wy A ni X B nf Fs cs ds v1 n1 x1 v n x := by
  have hs := h.only.size
  have lo : ∀ b, ownF v2 b → w.heap.size ≤ b := fun b hb => h.r2.2 b hb
  refine ⟨h.b0.only o fun e => own_blk_ne h.r2.1 h.b0 (by decide) e, h.b1.only o fun e => own_blk_ne h.r2.1 h.b1 (by decide) e, h.il.tr o fun b _ hb => ⟨fun e => by have := lo b e; have h3 : b < w.heap.size := hb; omega, hb⟩, h.fl.tr o fun b _ hb => ⟨fun e => by have := lo b e; have h3 : b < w.heap.size := hb; omega, hb⟩, h.r1.only o fun b hb e => ?_, r.mono fun b _ hb => ?_, h.only.trans o fun b hb e => by have := lo b e; omega⟩
  · rcases h.r2.ne_type h.r1 (by decide) with h0 | h0
    · have e' : v2.ownBlock = some b := e
      rw [h0] at e'; cases e'
    · exact h0 (Eq.trans e hb.symm)
  · rcases hb with hb | hb
    · exact lo b hb
    · show w.heap.size ≤ b; omega
end
set_option maxRecDepth 100000 in
set_option maxHeartbeats 8000000 in
theorem lent_c (w : World) (G : Nat → Prop) (hG : ∀ b, G b → b < w.heap.size) (A : Option Addr) (ni ci : Nat) (X : Nat → Ins) (B : Option Addr) (nf cf : Nat) (Fs : Nat → Fn) (m : Int) (hi : IL w G A ni X) (hf : FL w G B nf Fs) (hni : ni ≤ 1000000000) (hnf : nf ≤ 1000000000) :
    Calls Try.prog 14 #[codeV A ni ci B nf cf m] w fun e w' => ∃ b1 k1 b2 k2, e = .returned (codeV (some ⟨b1, 0, none⟩) ni k1 (some ⟨b2, 0, none⟩) nf k2 m) ∧ LX w' (fun b => w.heap.size ≤ b) b1 k1 b2 k2 ni nf (updN X ni markI) (updN Fs nf markF) ∧ (ni + 1 ≤ k1 ∧ nf + 1 ≤ k2) ∧ Below w.heap.size w w' := by
  have Q0 : Hid (LQ w ((w.alloc (.cells #[.slice A ni ci, .slice B nf cf, .int .i64 m] 25)).alloc (.cells #[.slice none 0 0, .slice none 0 0, .int .i64 0] 25)) A ni X B nf Fs #[.slice A ni ci, .slice B nf cf, .int .i64 m] #[.slice none 0 0, .slice none 0 0, .int .i64 0] (.slice none 0 0) 0 [] (.slice none 0 0) 0 []) := by
    have o : Only (fun _ => False) w ((w.alloc (.cells #[.slice A ni ci, .slice B nf cf, .int .i64 m] 25)).alloc (.cells #[.slice none 0 0, .slice none 0 0, .int .i64 0] 25)) := ((Only.refl _ w).alloc _).alloc _
    exact ⟨(blk_at rfl).alloc _, blk_at (by simp), hi.tr o fun b _ h => ⟨fun h => h, hG b h⟩, hf.tr o fun b _ h => ⟨fun h => h, hG b h⟩, Row.nil_ _ _ _ _, Row.nil_ _ _ _ _, o⟩
  have HI := Lib.hid (fun k (hk : k < ni) => (hi.2 k hk).1)
  have HF := Lib.hid (fun k (hk : k < nf) => And.intro (hf.2 k hk).1 (hf.2 k hk).2.1)
  have ONE := Lib.hid (fun (X : Nat → Ins) k => manyC_one insL_one X k)
  have ONF := Lib.hid (fun (X : Nat → Fn) k => manyC_one fnL_one X k)
  have MKI := Lib.hid (insL_one markI)
  have MKF := Lib.hid (fnL_one markF)
  have TI := Lib.hid (fun k => manyC_length insL_len X k)
  have TF := Lib.hid (fun k => manyC_length fnL_len Fs k)
  clear hi hf hG
  unfold codeV
  go_enter Try.func14, Try.ntmps14
  go_upto_region 1 with fail
  generalize World.alloc (World.alloc w _) _ = w0 at *
  have c0 := Q0.out.b0.cell 0
  simp only [List.getElem?_toArray, List.getElem?_cons_zero, List.getElem?_cons_succ] at c0
  have NI := Lib.hid Q0.out.il.news
  go_upto_region 2 with (at_builtin; go_must (refine wpList_app rfl (.const (.slice none 0 0)) (.tmp 6) 22 rfl app22 (ownF (.slice none 0 0)) _ 0 [] rfl Q0.out.own1 _ ni ci (manyC insL X ni) rfl (TI.out _) NI.out.1 NI.out.2 (ONE.out _ _) (by omega) (by decide) ni (Nat.zero_add _) _ (List.nil_append _) ?_); go_must (intro A1 cap1 w1 r1 o1; have Q1 := Lib.hid (Q0.out.app1 o1 r1); clear r1 o1))
  clear Q0 NI c0
  have Q1a := Lib.hid (fun o => Q1.out.quiet ((Only.refl (fun _ => False) w1).alloc o))
  clear Q1
  go_upto_region 3 with (at_builtin; go_must (refine wpList_app rfl (.tmp 8) (.tmp 10) 22 rfl app22 (ownF (.slice A1 ni cap1)) _ ni _ rfl (Q1a.out _).own1 _ 1 1 (insL markI) rfl rfl (fun h => by cases h) (Blk.news (blk_at rfl) (by kernel_rfl)) MKI.out (by omega) (by decide) (ni + 1) rfl _ (manyC_mark insL X ni markI) ?_); go_must (intro A2 cap2 w2 r2 o2; have Q2 := Lib.hid ((Q1a.out _).app1 o2 r2); clear r2 o2))
  clear Q1a
  have c1 := Q2.out.b0.cell 1
  simp only [List.getElem?_toArray, List.getElem?_cons_zero, List.getElem?_cons_succ] at c1
  have NF := Lib.hid Q2.out.fl.news
  go_upto_region 4 with (at_builtin; go_must (refine wpList_app rfl (.const (.slice none 0 0)) (.tmp 13) 23 rfl app23 (ownF (.slice none 0 0)) _ 0 [] rfl Q2.out.own2 _ nf cf (manyC fnL Fs nf) rfl (TF.out _) NF.out.1 NF.out.2 (ONF.out _ _) (by omega) (by decide) nf (Nat.zero_add _) _ (List.nil_append _) ?_); go_must (intro A3 cap3 w3 r3 o3; have Q3 := Lib.hid (Q2.out.app2 o3 r3); clear r3 o3))
  clear Q2 NF c1
  have Q3a := Lib.hid (fun o => Q3.out.quiet ((Only.refl (fun _ => False) w3).alloc o))
  clear Q3
  go_upto_region 5 with (at_builtin; go_must (refine wpList_app rfl (.tmp 15) (.tmp 17) 23 rfl app23 (ownF (.slice A3 nf cap3)) _ nf _ rfl (Q3a.out _).own2 _ 1 1 (fnL markF) rfl rfl (fun h => by cases h) (Blk.news (blk_at rfl) (by kernel_rfl)) MKF.out (by omega) (by decide) (nf + 1) rfl _ (manyC_mark fnL Fs nf markF) ?_); go_must (intro A4 cap4 w4 r4 o4; have Q4 := Lib.hid ((Q3a.out _).app2 o4 r4); clear r4 o4))
  clear Q3a
  obtain ⟨b1, k1, e1, hb1, -, hk1⟩ := Q4.out.r1.form (by omega)
  obtain ⟨b2, k2, e2, hb2, -, hk2⟩ := Q4.out.r2.form (by omega)
  have e1a : A2 = some ⟨b1, 0, none⟩ := by injection e1
  have e1b : cap2 = k1 := by injection e1
  have e2a : A4 = some ⟨b2, 0, none⟩ := by injection e2
  have e2b : cap4 = k2 := by injection e2
  clear e1 e2
  subst e1a e1b e2a e2b
  have c0 := Q4.out.b0.cell 0
  have c1 := Q4.out.b0.cell 1
  have c2 := Q4.out.b0.cell 2
  have d0 := Q4.out.b1.cell 0
  have d1 := Q4.out.b1.cell 1
  have d2 := Q4.out.b1.cell 2
  have df := Q4.out.b1.frozen
  simp only [List.getElem?_toArray, List.getElem?_cons_zero, List.getElem?_cons_succ] at c0 c1 c2 d0 d1 d2
  go_region
  all_goals go_wp2_with fail
  have o5 : Only (fun b => b = w.heap.size + 1) w4 (((w4.setCell ⟨w.heap.size + 1, 0, none⟩ (.slice (some ⟨b1, 0, none⟩) ni cap2)).setCell ⟨w.heap.size + 1, 1, none⟩ (.slice (some ⟨b2, 0, none⟩) nf cap4)).setCell ⟨w.heap.size + 1, 2, none⟩ (.int .i64 m)).drew :=
    ((((Only.refl (fun b => b = w.heap.size + 1) w4).cells (p := ⟨w.heap.size + 1, 0, none⟩) rfl _).cells (p := ⟨w.heap.size + 1, 1, none⟩) rfl _).cells (p := ⟨w.heap.size + 1, 2, none⟩) rfl _).drew
  have B5 := (((Q4.out.b1.set_ 0 (.slice (some ⟨b1, 0, none⟩) ni cap2)).set_ 1 (.slice (some ⟨b2, 0, none⟩) nf cap4)).set_ 2 (.int .i64 m)).drew
  simp only [List.setIfInBounds_toArray, List.set_cons_zero, List.set_cons_succ] at B5
  refine bodyPost_ret (results_cell rfl (a := ⟨w.heap.size + 1, 0, none⟩) rfl (run_loadVar_row _ (w.heap.size + 1) 25 25 _ (0, 0) _ B5 Try.underlying25 rfl (by kernel_rfl))) rfl ?_
  refine ⟨b1, cap2, b2, cap4, rfl, ⟨Q4.out.r1.only o5 fun b hb e => ?_, Q4.out.r2.only o5 fun b hb e => ?_, fun i hi => ?_, fun i hi => ?_, hni, hnf⟩, ⟨hk1, hk2⟩, ?_⟩
  · have e' : b = w.heap.size + 1 := e
    exact own_blk_ne Q4.out.r1.1 Q4.out.b1 (by decide) (e' ▸ hb)
  · have e' : b = w.heap.size + 1 := e
    exact own_blk_ne Q4.out.r2.1 Q4.out.b1 (by decide) (e' ▸ hb)
  · unfold updN
    split
    · exact ⟨⟨by decide, by decide⟩, in_0, in_0, in_0, in_0⟩
    · exact HI.out i (by omega)
  · unfold updN
    split
    · exact ⟨⟨in_0, ⟨by decide, by decide⟩, in_0, in_0⟩, (by decide : (0 : Nat) ≤ 9223372036854775807)⟩
    · exact HF.out i (by omega)
  · exact (Q4.out.only.trans (G := fun b => b = w.heap.size + 1) o5 fun b h1 h2 => by have h3 : b = w.heap.size + 1 := h2; omega).toBelow (Nat.le_refl _) fun _ _ h => h
end Go.Proofs.Ytkjfbojmkkdgoaa
