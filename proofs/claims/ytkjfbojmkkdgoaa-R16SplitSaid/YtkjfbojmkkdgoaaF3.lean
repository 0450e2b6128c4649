/- R16Split: the walk. -/
import Derived.Test.YtkjfbojmkkdgoaaF2
import Derived.Test.YtkjfbojmkkdgoaaY4
import Derived.Deep.DeepCutAuto
import Derived.Deep.CutBlock
import Derived.BigQuiet
import Derived.Deep.RegionHeld3
set_option linter.unusedVariables false
set_option linter.unusedSimpArgs false
namespace Go.Proofs.Ytkjfbojmkkdgoaa
open Go.RowKit
attribute [local go_sem ↓] Go.wp_at_zero Go.wp_at_succ
/-- The arguments, boxed. -/
structure SB (w w0 : World) (A : Option Addr) (ni ci : Nat) (B : Option Addr) (nf cf : Nat) (m sl hl : Int) (z : Nat → Nat) : Prop where
  fam : Fam w0 z [TL w, TB w.heap.size 25 #[.slice A ni ci, .slice B nf cf, .int .i64 m], TB (w.heap.size + 1) 38 #[.int .i64 sl, .int .i64 hl]]
set_option maxRecDepth 100000 in
set_option maxHeartbeats 16000000 in
theorem split_c (w : World) (A : Option Addr) (ni ci : Nat) (X : Nat → Ins) (B : Option Addr) (nf cf : Nat) (Fs : Nat → Fn) (m : Int) (hci : ni ≤ ci) (hm : i64in m) (hi : IL w (fun b => b < w.heap.size) A ni X) (hf : FL w (fun b => b < w.heap.size) B nf Fs) (hA : A = none → ci = 0) (hB : B = none → cf = 0) (NA : Option Addr) (n nc : Nat) (xs : List Int) (hx : xs.length = n) (hN : NL w (fun b => b < w.heap.size) NA xs) (hxw : ∀ x ∈ xs, i64in x) (hNA : NA = none → nc = 0) (sl hl a0 b0 : Int) (hbig : (ni : Int) + (n : Int) ≤ 9223372036854775807) (a b : Nat) (ha : bits .and .i64 a0 16383 = (a : Int)) (hb : bits .and .i64 b0 16383 = (b : Int)) (ha1 : a ≤ 16383) (hb1 : b ≤ 16383) :
    Calls Try.prog 4 #[codeV A ni ci B nf cf m, .slice NA n nc, .agg #[.int .i64 sl, .int .i64 hl], .int .i64 a0, .int .i64 b0] w fun e w' => e = .returned (.bool true) ∧ Below w.heap.size w w' := by
  obtain ⟨z0, S0⟩ : ∃ z0, Hid (Fam ((w.alloc (.cells #[.slice A ni ci, .slice B nf cf, .int .i64 m] 25)).alloc (.cells #[.int .i64 sl, .int .i64 hl] 38)) z0 [TL w, TB w.heap.size 25 #[.slice A ni ci, .slice B nf cf, .int .i64 m], TB (w.heap.size + 1) 38 #[.int .i64 sl, .int .i64 hl]]) := by
    obtain ⟨z1, h1⟩ := (Fam.start w).blk #[.slice A ni ci, .slice B nf cf, .int .i64 m] 25
    obtain ⟨z2, h2⟩ := h1.blk #[.int .i64 sl, .int .i64 hl] 38
    rw [show (w.alloc (.cells #[.slice A ni ci, .slice B nf cf, .int .i64 m] 25)).heap.size = w.heap.size + 1 by simp] at h2
    exact ⟨z2, h2⟩
  have HI := Lib.hid hi
  have HF := Lib.hid hf
  have HN := Lib.hid hN
  have HXW := Lib.hid hxw
  have HX := Lib.hid hx
  clear hi hf hN hxw hx
  unfold codeV
  go_enter Try.func4, Try.ntmps4
  go_upto_region 3 with fail
  generalize World.alloc (World.alloc w _) _ = w0 at *
  have y0 := (S0.out.cells 1 rfl).cell 0
  have y1 := (S0.out.cells 1 rfl).cell 1
  have y2 := (S0.out.cells 1 rfl).cell 2
  simp only [List.getElem?_toArray, List.getElem?_cons_zero, List.getElem?_cons_succ] at y0 y1 y2
  have FLW := Lib.hid (HF.out.tr (F := fun b => w.heap.size ≤ b) (G' := fun _ => True) ⟨(S0.out.low 0 rfl).os, (S0.out.low 0 rfl).tape, (S0.out.low 0 rfl).output, (S0.out.low 0 rfl).size, fun k _ h => (S0.out.low 0 rfl).block k (by omega)⟩ fun b hb _ => ⟨by omega, trivial⟩)
  have FC := Lib.hid (fits_c w0 _ A ni ci B nf cf Fs m FLW.out NA n nc hbig)
  go_wp2_with fail
  refine FC.out.mono ?_
  rintro e w1 ⟨r, rfl, hr, b1⟩
  have S1 := Lib.hid (S0.out.quiet (Only.ofBelow b1))
  clear S0 FC b1 y0 y1 y2 FLW
  cases r with
  | false =>
    go_wp2_with fail
    go_ret
    exact ⟨rfl, S1.out.low 0 rfl⟩
  | true =>
    obtain ⟨h1, h2⟩ := hr rfl
    clear hr
    have CA0 : Hid (CA w (fun b => b < w.heap.size) A ni ci X B nf cf Fs m NA xs nc) := ⟨HI.out, hci, HF.out, hm, by omega, HN.out, hA, hB, hNA, HXW.out, by omega⟩
    clear HI HF HN HXW hA hB hNA hm
    go_wp2_with fail
    refine (alive_c w1).mono ?_
    rintro e w2 ⟨rfl, b2⟩
    have S2 := Lib.hid (S1.out.quiet (Only.ofBelow b2))
    clear S1 b2
    have y0 := (S2.out.cells 1 rfl).cell 0
    have y1 := (S2.out.cells 1 rfl).cell 1
    have y2 := (S2.out.cells 1 rfl).cell 2
    have v0 := (S2.out.cells 2 rfl).cell 0
    have v1 := (S2.out.cells 2 rfl).cell 1
    simp only [List.getElem?_toArray, List.getElem?_cons_zero, List.getElem?_cons_succ] at y0 y1 y2 v0 v1
    by_cases hok : NewOk ni X nf Fs m xs sl hl
    case neg =>
      obtain ⟨er, her, hnew⟩ := new_no A ni ci X B nf cf Fs m NA xs nc sl hl hok
      rw [HX.out] at hnew
      have HNEW := Lib.hid hnew
      have CB := Lib.hid (fun wx (hb : Below w.heap.size w wx) => CA0.out.below hb fun b h => h)
      clear hnew hok
      go_upto_region 7 with (go_at_call 19; refine (HNEW.out _ _ (CB.out _ (S2.out.low 0 rfl))).mono ?_; rintro e w3 ⟨rfl, b3⟩)
      have S3 := Lib.hid (S2.out.quiet (Only.ofBelow b3))
      clear S2 b3 y0 y1 y2 v0 v1
      have y0 := (S3.out.cells 1 rfl).cell 0
      have y1 := (S3.out.cells 1 rfl).cell 1
      have y2 := (S3.out.cells 1 rfl).cell 2
      have v0 := (S3.out.cells 2 rfl).cell 0
      have v1 := (S3.out.cells 2 rfl).cell 1
      simp only [List.getElem?_toArray, List.getElem?_cons_zero, List.getElem?_cons_succ] at y0 y1 y2 v0 v1
      go_upto_region 8 with (go_at_call 19; refine (HNEW.out _ _ (CB.out _ (S3.out.low 0 rfl))).mono ?_; rintro e w4 ⟨rfl, b4⟩)
      have S4 := Lib.hid (S3.out.quiet (Only.ofBelow b4))
      clear S3 b4 y0 y1 y2 v0 v1
      have y0 := (S4.out.cells 1 rfl).cell 0
      have y1 := (S4.out.cells 1 rfl).cell 1
      have y2 := (S4.out.cells 1 rfl).cell 2
      have v0 := (S4.out.cells 2 rfl).cell 0
      have v1 := (S4.out.cells 2 rfl).cell 1
      simp only [List.getElem?_toArray, List.getElem?_cons_zero, List.getElem?_cons_succ] at y0 y1 y2 v0 v1
      go_upto_region 9 with (go_at_call 19; refine (HNEW.out _ _ (CB.out _ (S4.out.low 0 rfl))).mono ?_; rintro e w5 ⟨rfl, b5⟩)
      have S5 := Lib.hid (S4.out.quiet (Only.ofBelow b5))
      clear S4 b5 y0 y1 y2 v0 v1 HNEW CB CA0
      rcases her with rfl | rfl | rfl
      all_goals
        go_wp2_with (go_at_call 18; refine (num_c _ _).mono ?_; rintro e w9 ⟨rfl, hw9⟩; subst hw9)
        go_ret
        exact ⟨rfl, S5.out.low 0 rfl⟩
    case pos =>
      have SK := Lib.hid (CA0.out.sound hok)
      have NY := Lib.hid (fun wx z l (h : Fam wx z l) (hb : Below w.heap.size w wx) => h.new_ (CA0.out.below hb fun b h => h) hok n HX.out)
      obtain ⟨K, hK⟩ : ∃ K, K = kOf ni X nf Fs m sl hl := ⟨_, rfl⟩
      obtain ⟨q0, hq0⟩ : ∃ q, q = newQ K xs := ⟨_, rfl⟩
      have HS0 : Hid (q0.steps = 0) := by show _ = _; rw [hq0]; exact newQ_steps K xs
      rw [← hK] at SK NY
      rw [← hq0] at NY
      clear hK hq0 hok CA0 HX
      go_upto_region 7 with (go_at_call 19; refine (NY.out _ _ _ S2.out (S2.out.low 0 rfl)).mono ?_; rintro e w3 ⟨g1, z3, rfl, f3⟩)
      have S3 := Lib.hid f3
      clear S2 f3 y0 y1 y2 v0 v1
      have y0 := (S3.out.cells 1 rfl).cell 0
      have y1 := (S3.out.cells 1 rfl).cell 1
      have y2 := (S3.out.cells 1 rfl).cell 2
      have v0 := (S3.out.cells 2 rfl).cell 0
      have v1 := (S3.out.cells 2 rfl).cell 1
      simp only [List.getElem?_toArray, List.getElem?_cons_zero, List.getElem?_cons_succ] at y0 y1 y2 v0 v1
      go_upto_region 8 with (go_at_call 19; refine (NY.out _ _ _ S3.out (S3.out.low 0 rfl)).mono ?_; rintro e w4 ⟨g2, z4, rfl, f4⟩)
      have S4 := Lib.hid f4
      clear S3 f4 y0 y1 y2 v0 v1
      have y0 := (S4.out.cells 1 rfl).cell 0
      have y1 := (S4.out.cells 1 rfl).cell 1
      have y2 := (S4.out.cells 1 rfl).cell 2
      have v0 := (S4.out.cells 2 rfl).cell 0
      have v1 := (S4.out.cells 2 rfl).cell 1
      simp only [List.getElem?_toArray, List.getElem?_cons_zero, List.getElem?_cons_succ] at y0 y1 y2 v0 v1
      go_upto_region 9 with (go_at_call 19; refine (NY.out _ _ _ S4.out (S4.out.low 0 rfl)).mono ?_; rintro e w5 ⟨g3, z5, rfl, f5⟩)
      have S5 : Hid (Fam w5 z5 [TL w, TB w.heap.size 25 #[.slice A ni ci, .slice B nf cf, .int .i64 m], TB (w.heap.size + 1) 38 #[.int .i64 sl, .int .i64 hl], TM g1 K q0, TM g2 K q0, TM g3 K q0]) := f5
      clear S4 f5 y0 y1 y2 v0 v1 NY
      go_upto_region 13 with (go_at_call 18; refine (num_c _ _).mono ?_; rintro e w9 ⟨rfl, hw9⟩; subst hw9)
      obtain ⟨q1, hq1⟩ : ∃ q, runN K a q0 = q := ⟨_, rfl⟩
      obtain ⟨q2, hq2⟩ : ∃ q, runN K b q1 = q := ⟨_, rfl⟩
      have hq3 : runN K (a + b) q0 = q2 := by rw [runN_add, hq1, hq2]
      have m1 : q1.steps = madeN K a q0 := by rw [← hq1, runN_steps, HS0.out]; omega
      have m2 : q2.steps = madeN K (a + b) q0 := by rw [← hq3, runN_steps, HS0.out]; omega
      have hs1 : q1.steps ≤ (a : Int) := by rw [m1]; have := madeN_le K a q0; omega
      have hs1b : 0 ≤ q1.steps := by omega
      obtain ⟨l, hl12⟩ : ∃ l, q2.ev = q1.ev ++ l := by rw [← hq2]; exact runN_ev K b q1
      have hend : q1.fin = 0 ∨ q2 = q1 := by
        by_cases hf : q1.fin = 0
        · exact .inl hf
        · exact .inr (by rw [← hq2]; exact runN_rest K q1 (goes_no hf) b)
      have RA := Lib.hid (fun wx z l (h : Fam wx z l) (hi : l[3]? = some (TM g1 K q0)) => h.run SK.out 3 g1 hi (a : Int) (by omega) (by omega) (by rw [HS0.out]; have := madeN_le K (a : Int).toNat q0; omega) (by rw [Int.toNat_natCast]; exact hq1) (QV.of q1))
      have RB := Lib.hid (fun wx z l (h : Fam wx z l) (hi : l[3]? = some (TM g1 K q1)) => h.run SK.out 3 g1 hi (b : Int) (by omega) (by omega) (by have := madeN_le K (b : Int).toNat q1; omega) (by rw [Int.toNat_natCast]; exact hq2) (QV.of q2))
      have RZ := Lib.hid (fun wx z l (h : Fam wx z l) (hi : l[4]? = some (TM g2 K q0)) => h.run SK.out 4 g2 hi ((a : Int) + (b : Int)) (by omega) (by omega) (by rw [HS0.out]; have := madeN_le K ((a : Int) + (b : Int)).toNat q0; omega) (by rw [show ((a : Int) + (b : Int)).toNat = a + b by omega]; exact hq3) (QV.of q2))
      have M2 := Lib.hid m2
      have HQ3 := Lib.hid hq3
      have hn12 : q1.ev.length ≤ q2.ev.length := by rw [hl12, List.length_append]; omega
      have HE := Lib.hid hend
      have HL := Lib.hid hl12
      clear hq1 hq2 m1 m2 hl12 hend hq3
      obtain ⟨fx, hfx⟩ : ∃ x, q1.fin = x := ⟨_, rfl⟩
      rw [hfx] at RA HE
      have HFX := Lib.hid hfx
      clear hfx
      generalize hn1 : q1.ev.length = n1 at *
      generalize hn2 : q2.ev.length = n2 at *
      have HN1 := Lib.hid hn1
      have HN2 := Lib.hid hn2
      clear hn1 hn2
      go_upto_region 14 with (go_at_call 20; refine (RA.out _ _ _ S5.out rfl).mono ?_; rintro e w6 ⟨Ax, cx, z6, rfl, f6⟩)
      obtain ⟨z7, f7⟩ := f6.blk #[.slice Ax n1 cx, .int .i64 fx, .int .i64 q1.kind, .int .i64 q1.val, .int .i64 q1.steps, .int .i64 q1.hp.tk, .int .i64 q1.depth] 44
      have S7 : Hid (Fam (w6.alloc (.cells #[.slice Ax n1 cx, .int .i64 fx, .int .i64 q1.kind, .int .i64 q1.val, .int .i64 q1.steps, .int .i64 q1.hp.tk, .int .i64 q1.depth] 44)) z7 [TL w, TB w.heap.size 25 #[.slice A ni ci, .slice B nf cf, .int .i64 m], TB (w.heap.size + 1) 38 #[.int .i64 sl, .int .i64 hl], TM g1 K q1, TM g2 K q0, TM g3 K q0, TR (.slice Ax n1 cx) n1 q1.ev, TB w6.heap.size 44 #[.slice Ax n1 cx, .int .i64 fx, .int .i64 q1.kind, .int .i64 q1.val, .int .i64 q1.steps, .int .i64 q1.hp.tk, .int .i64 q1.depth]]) := f7
      clear f6 f7 S5 RA
      generalize World.alloc w6 _ = w7 at *
      generalize w6.heap.size = gx at *
      go_upto_region 15 with (go_at_call 20; refine (RB.out _ _ _ S7.out rfl).mono ?_; rintro e w8 ⟨Ay, cy, z8, rfl, f8⟩)
      obtain ⟨z9, f9⟩ := f8.blk #[.slice Ay n2 cy, .int .i64 q2.fin, .int .i64 q2.kind, .int .i64 q2.val, .int .i64 q2.steps, .int .i64 q2.hp.tk, .int .i64 q2.depth] 44
      have S9 : Hid (Fam (w8.alloc (.cells #[.slice Ay n2 cy, .int .i64 q2.fin, .int .i64 q2.kind, .int .i64 q2.val, .int .i64 q2.steps, .int .i64 q2.hp.tk, .int .i64 q2.depth] 44)) z9 [TL w, TB w.heap.size 25 #[.slice A ni ci, .slice B nf cf, .int .i64 m], TB (w.heap.size + 1) 38 #[.int .i64 sl, .int .i64 hl], TM g1 K q2, TM g2 K q0, TM g3 K q0, TR (.slice Ax n1 cx) n1 q1.ev, TB gx 44 #[.slice Ax n1 cx, .int .i64 fx, .int .i64 q1.kind, .int .i64 q1.val, .int .i64 q1.steps, .int .i64 q1.hp.tk, .int .i64 q1.depth], TR (.slice Ay n2 cy) n2 q2.ev, TB w8.heap.size 44 #[.slice Ay n2 cy, .int .i64 q2.fin, .int .i64 q2.kind, .int .i64 q2.val, .int .i64 q2.steps, .int .i64 q2.hp.tk, .int .i64 q2.depth]]) := f9
      clear f8 f9 S7 RB
      generalize World.alloc w8 _ = w9 at *
      generalize w8.heap.size = gy at *
      go_upto_region 16 with (go_at_call 20; refine (RZ.out _ _ _ S9.out rfl).mono ?_; rintro e wa ⟨Az, cz, za, rfl, fa⟩)
      obtain ⟨zb, fb⟩ := fa.blk #[.slice Az n2 cz, .int .i64 q2.fin, .int .i64 q2.kind, .int .i64 q2.val, .int .i64 q2.steps, .int .i64 q2.hp.tk, .int .i64 q2.depth] 44
      have Sb : Hid (Fam (wa.alloc (.cells #[.slice Az n2 cz, .int .i64 q2.fin, .int .i64 q2.kind, .int .i64 q2.val, .int .i64 q2.steps, .int .i64 q2.hp.tk, .int .i64 q2.depth] 44)) zb [TL w, TB w.heap.size 25 #[.slice A ni ci, .slice B nf cf, .int .i64 m], TB (w.heap.size + 1) 38 #[.int .i64 sl, .int .i64 hl], TM g1 K q2, TM g2 K q2, TM g3 K q0, TR (.slice Ax n1 cx) n1 q1.ev, TB gx 44 #[.slice Ax n1 cx, .int .i64 fx, .int .i64 q1.kind, .int .i64 q1.val, .int .i64 q1.steps, .int .i64 q1.hp.tk, .int .i64 q1.depth], TR (.slice Ay n2 cy) n2 q2.ev, TB gy 44 #[.slice Ay n2 cy, .int .i64 q2.fin, .int .i64 q2.kind, .int .i64 q2.val, .int .i64 q2.steps, .int .i64 q2.hp.tk, .int .i64 q2.depth], TR (.slice Az n2 cz) n2 q2.ev, TB wa.heap.size 44 #[.slice Az n2 cz, .int .i64 q2.fin, .int .i64 q2.kind, .int .i64 q2.val, .int .i64 q2.steps, .int .i64 q2.hp.tk, .int .i64 q2.depth]]) := fb
      clear fa fb S9 RZ
      generalize World.alloc wa _ = wb at *
      generalize wa.heap.size = gz at *
      go_upto_block 0 with fail
      go_cut [24, 25, 26] from 140 (fun v24 v25 v26 wx => v24 = .int .i64 q2.steps ∧ ∃ zx, Hid (Fam wx zx [TL w, TB w.heap.size 25 #[.slice A ni ci, .slice B nf cf, .int .i64 m], TB (w.heap.size + 1) 38 #[.int .i64 sl, .int .i64 hl], TM g1 K q2, TM g2 K q2, TM g3 K q2, TR (.slice Ax n1 cx) n1 q1.ev, TB gx 44 #[.slice Ax n1 cx, .int .i64 fx, .int .i64 q1.kind, .int .i64 q1.val, .int .i64 q1.steps, .int .i64 q1.hp.tk, .int .i64 q1.depth], TR (.slice Ay n2 cy) n2 q2.ev, TB gy 44 #[.slice Ay n2 cy, .int .i64 q2.fin, .int .i64 q2.kind, .int .i64 q2.val, .int .i64 q2.steps, .int .i64 q2.hp.tk, .int .i64 q2.depth], TR (.slice Az n2 cz) n2 q2.ev, TB gz 44 #[.slice Az n2 cz, .int .i64 q2.fin, .int .i64 q2.kind, .int .i64 q2.val, .int .i64 q2.steps, .int .i64 q2.hp.tk, .int .i64 q2.depth]]))
      case first =>
        clear HE HL HN1 HN2
        go_wp2_with fail
        go_loopg [24, 25, 26] (a + b) (fun gk v24 v25 v26 wx => ∃ (i : Nat) (qi : MQ) (zx : Nat → Nat), v24 = .int .i64 (i : Int) ∧ v25 = .int .i64 (i : Int) ∧ i + gk = a + b ∧ qi.steps = (i : Int) ∧ Hid (runN K gk qi = q2) ∧ Hid (Fam wx zx [TL w, TB w.heap.size 25 #[.slice A ni ci, .slice B nf cf, .int .i64 m], TB (w.heap.size + 1) 38 #[.int .i64 sl, .int .i64 hl], TM g1 K q2, TM g2 K q2, TM g3 K qi, TR (.slice Ax n1 cx) n1 q1.ev, TB gx 44 #[.slice Ax n1 cx, .int .i64 fx, .int .i64 q1.kind, .int .i64 q1.val, .int .i64 q1.steps, .int .i64 q1.hp.tk, .int .i64 q1.depth], TR (.slice Ay n2 cy) n2 q2.ev, TB gy 44 #[.slice Ay n2 cy, .int .i64 q2.fin, .int .i64 q2.kind, .int .i64 q2.val, .int .i64 q2.steps, .int .i64 q2.hp.tk, .int .i64 q2.depth], TR (.slice Az n2 cz) n2 q2.ev, TB gz 44 #[.slice Az n2 cz, .int .i64 q2.fin, .int .i64 q2.kind, .int .i64 q2.val, .int .i64 q2.steps, .int .i64 q2.hp.tk, .int .i64 q2.depth]]))
        case atStart => exact ⟨0, q0, _, rfl, rfl, by omega, HS0.out, HQ3, Sb⟩
        case round =>
          clear Sb
          obtain ⟨i, qi, zx, rfl, rfl, hig, hsi, HR, S⟩ := hrel
          have HSI := Lib.hid hsi
          clear hsi
          by_cases hlt : i < a + b
          · obtain ⟨j, rfl⟩ : ∃ j, gk = j + 1 := ⟨gk - 1, by omega⟩
            have hlt2 : (i : Int) < (a : Int) + (b : Int) := by omega
            have ST := Lib.hid (S.out.step SK.out 5 g3 rfl (by rw [HSI.out]; omega))
            clear S
            cases hg : goes K qi with
            | false =>
              rw [hg] at ST
              have e1 : qi = q2 := by have := HR.out; rw [runN_rest K _ hg] at this; exact this
              have e2 : stepTo K qi = q2 := by unfold stepTo; rw [if_neg (by rw [hg]; decide)]; exact e1
              have e3 : Hid (q2.steps = (i : Int)) := by rw [← e1]; exact HSI.out
              rw [e2] at ST
              clear e1 e2 HR HSI hg
              go_wp2_with (go_at_call 21; refine ST.out.mono ?_; rintro e w4 ⟨zy, rfl, fy⟩; have FY := Lib.hid fy; clear fy)
              go_meet
              case rel => exact ⟨by rw [e3.out], zy, FY⟩
            | true =>
              rw [hg] at ST
              have e2 : stepTo K qi = next K qi := by unfold stepTo; rw [if_pos hg]
              rw [e2] at ST
              have e4 : Hid (runN K j (next K qi) = q2) := by have := HR.out; rwa [runN_succ K _ _ hg] at this
              have e5 : Hid ((next K qi).steps = ((i + 1 : Nat) : Int)) := by show _ = _; rw [next_steps, HSI.out]; omega
              clear e2 HR HSI hg
              go_wp2_with (go_at_call 21; refine ST.out.mono ?_; rintro e w4 ⟨zy, rfl, fy⟩; have FY := Lib.hid fy; clear fy)
              go_roundg j
              case rel => exact ⟨i + 1, next K qi, zy, by go_num, by go_num, by omega, e5.out, e4, FY⟩
              case measure => omega
          · have e1 : Hid (q2.steps = (i : Int)) := by
              have h0 : gk = 0 := by omega
              have := HR.out
              rw [h0] at this
              show q2.steps = _
              rw [← this]; exact HSI.out
            have e2 : qi = q2 := by
              have h0 : gk = 0 := by omega
              have := HR.out
              rw [h0] at this
              exact this
            subst e2
            have hd : ¬ (i : Int) < (a : Int) + (b : Int) := by omega
            go_wp2_with fail
            go_meet
            case rel => exact ⟨by rw [e1.out], zx, S⟩
      case rest =>
      obtain ⟨rfl, zx, Sc⟩ := hcut
      clear Sb
      have OC := Lib.hid (Sc.out.outc 5 g3 rfl (QV.of q2))
      rw [HN2.out] at OC
      go_upto_region 24 with (go_at_call 22; refine OC.out.mono ?_; rintro e wd ⟨Aw, cw, zd, rfl, fd⟩)
      obtain ⟨ze, fe⟩ := fd.blk #[.slice Aw n2 cw, .int .i64 q2.fin, .int .i64 q2.kind, .int .i64 q2.val, .int .i64 q2.steps, .int .i64 q2.hp.tk, .int .i64 q2.depth] 44
      have Se : Hid (Fam (wd.alloc (.cells #[.slice Aw n2 cw, .int .i64 q2.fin, .int .i64 q2.kind, .int .i64 q2.val, .int .i64 q2.steps, .int .i64 q2.hp.tk, .int .i64 q2.depth] 44)) ze [TL w, TB w.heap.size 25 #[.slice A ni ci, .slice B nf cf, .int .i64 m], TB (w.heap.size + 1) 38 #[.int .i64 sl, .int .i64 hl], TM g1 K q2, TM g2 K q2, TM g3 K q2, TR (.slice Ax n1 cx) n1 q1.ev, TB gx 44 #[.slice Ax n1 cx, .int .i64 fx, .int .i64 q1.kind, .int .i64 q1.val, .int .i64 q1.steps, .int .i64 q1.hp.tk, .int .i64 q1.depth], TR (.slice Ay n2 cy) n2 q2.ev, TB gy 44 #[.slice Ay n2 cy, .int .i64 q2.fin, .int .i64 q2.kind, .int .i64 q2.val, .int .i64 q2.steps, .int .i64 q2.hp.tk, .int .i64 q2.depth], TR (.slice Az n2 cz) n2 q2.ev, TB gz 44 #[.slice Az n2 cz, .int .i64 q2.fin, .int .i64 q2.kind, .int .i64 q2.val, .int .i64 q2.steps, .int .i64 q2.hp.tk, .int .i64 q2.depth], TR (.slice Aw n2 cw) n2 q2.ev, TB wd.heap.size 44 #[.slice Aw n2 cw, .int .i64 q2.fin, .int .i64 q2.kind, .int .i64 q2.val, .int .i64 q2.steps, .int .i64 q2.hp.tk, .int .i64 q2.depth]]) := fe
      clear fd fe Sc OC
      generalize World.alloc wd _ = we at *
      generalize wd.heap.size = gw at *
      have hev : n2 ≤ 1048576 := by rw [← HN2.out]; exact (Se.out.at_ 3 _ rfl).1.evn
      have SA : Hid (∀ wx zx, Fam wx zx [TL w, TB w.heap.size 25 #[.slice A ni ci, .slice B nf cf, .int .i64 m], TB (w.heap.size + 1) 38 #[.int .i64 sl, .int .i64 hl], TM g1 K q2, TM g2 K q2, TM g3 K q2, TR (.slice Ax n1 cx) n1 q1.ev, TB gx 44 #[.slice Ax n1 cx, .int .i64 fx, .int .i64 q1.kind, .int .i64 q1.val, .int .i64 q1.steps, .int .i64 q1.hp.tk, .int .i64 q1.depth], TR (.slice Ay n2 cy) n2 q2.ev, TB gy 44 #[.slice Ay n2 cy, .int .i64 q2.fin, .int .i64 q2.kind, .int .i64 q2.val, .int .i64 q2.steps, .int .i64 q2.hp.tk, .int .i64 q2.depth], TR (.slice Az n2 cz) n2 q2.ev, TB gz 44 #[.slice Az n2 cz, .int .i64 q2.fin, .int .i64 q2.kind, .int .i64 q2.val, .int .i64 q2.steps, .int .i64 q2.hp.tk, .int .i64 q2.depth], TR (.slice Aw n2 cw) n2 q2.ev, TB gw 44 #[.slice Aw n2 cw, .int .i64 q2.fin, .int .i64 q2.kind, .int .i64 q2.val, .int .i64 q2.steps, .int .i64 q2.hp.tk, .int .i64 q2.depth]] → Calls Try.prog 23 #[.agg #[.slice Ay n2 cy, .int .i64 q2.fin, .int .i64 q2.kind, .int .i64 q2.val, .int .i64 q2.steps, .int .i64 q2.hp.tk, .int .i64 q2.depth], .agg #[.slice Az n2 cz, .int .i64 q2.fin, .int .i64 q2.kind, .int .i64 q2.val, .int .i64 q2.steps, .int .i64 q2.hp.tk, .int .i64 q2.depth]] wx fun e w' => e = .returned (.bool true) ∧ Fam w' zx [TL w, TB w.heap.size 25 #[.slice A ni ci, .slice B nf cf, .int .i64 m], TB (w.heap.size + 1) 38 #[.int .i64 sl, .int .i64 hl], TM g1 K q2, TM g2 K q2, TM g3 K q2, TR (.slice Ax n1 cx) n1 q1.ev, TB gx 44 #[.slice Ax n1 cx, .int .i64 fx, .int .i64 q1.kind, .int .i64 q1.val, .int .i64 q1.steps, .int .i64 q1.hp.tk, .int .i64 q1.depth], TR (.slice Ay n2 cy) n2 q2.ev, TB gy 44 #[.slice Ay n2 cy, .int .i64 q2.fin, .int .i64 q2.kind, .int .i64 q2.val, .int .i64 q2.steps, .int .i64 q2.hp.tk, .int .i64 q2.depth], TR (.slice Az n2 cz) n2 q2.ev, TB gz 44 #[.slice Az n2 cz, .int .i64 q2.fin, .int .i64 q2.kind, .int .i64 q2.val, .int .i64 q2.steps, .int .i64 q2.hp.tk, .int .i64 q2.depth], TR (.slice Aw n2 cw) n2 q2.ev, TB gw 44 #[.slice Aw n2 cw, .int .i64 q2.fin, .int .i64 q2.kind, .int .i64 q2.val, .int .i64 q2.steps, .int .i64 q2.hp.tk, .int .i64 q2.depth]]) := fun wx zx h => h.same 8 10 HN2.out hev rfl rfl _ _ _ _ _ _
      have SZ : Hid (∀ wx zx, Fam wx zx [TL w, TB w.heap.size 25 #[.slice A ni ci, .slice B nf cf, .int .i64 m], TB (w.heap.size + 1) 38 #[.int .i64 sl, .int .i64 hl], TM g1 K q2, TM g2 K q2, TM g3 K q2, TR (.slice Ax n1 cx) n1 q1.ev, TB gx 44 #[.slice Ax n1 cx, .int .i64 fx, .int .i64 q1.kind, .int .i64 q1.val, .int .i64 q1.steps, .int .i64 q1.hp.tk, .int .i64 q1.depth], TR (.slice Ay n2 cy) n2 q2.ev, TB gy 44 #[.slice Ay n2 cy, .int .i64 q2.fin, .int .i64 q2.kind, .int .i64 q2.val, .int .i64 q2.steps, .int .i64 q2.hp.tk, .int .i64 q2.depth], TR (.slice Az n2 cz) n2 q2.ev, TB gz 44 #[.slice Az n2 cz, .int .i64 q2.fin, .int .i64 q2.kind, .int .i64 q2.val, .int .i64 q2.steps, .int .i64 q2.hp.tk, .int .i64 q2.depth], TR (.slice Aw n2 cw) n2 q2.ev, TB gw 44 #[.slice Aw n2 cw, .int .i64 q2.fin, .int .i64 q2.kind, .int .i64 q2.val, .int .i64 q2.steps, .int .i64 q2.hp.tk, .int .i64 q2.depth]] → Calls Try.prog 23 #[.agg #[.slice Az n2 cz, .int .i64 q2.fin, .int .i64 q2.kind, .int .i64 q2.val, .int .i64 q2.steps, .int .i64 q2.hp.tk, .int .i64 q2.depth], .agg #[.slice Aw n2 cw, .int .i64 q2.fin, .int .i64 q2.kind, .int .i64 q2.val, .int .i64 q2.steps, .int .i64 q2.hp.tk, .int .i64 q2.depth]] wx fun e w' => e = .returned (.bool true) ∧ Fam w' zx [TL w, TB w.heap.size 25 #[.slice A ni ci, .slice B nf cf, .int .i64 m], TB (w.heap.size + 1) 38 #[.int .i64 sl, .int .i64 hl], TM g1 K q2, TM g2 K q2, TM g3 K q2, TR (.slice Ax n1 cx) n1 q1.ev, TB gx 44 #[.slice Ax n1 cx, .int .i64 fx, .int .i64 q1.kind, .int .i64 q1.val, .int .i64 q1.steps, .int .i64 q1.hp.tk, .int .i64 q1.depth], TR (.slice Ay n2 cy) n2 q2.ev, TB gy 44 #[.slice Ay n2 cy, .int .i64 q2.fin, .int .i64 q2.kind, .int .i64 q2.val, .int .i64 q2.steps, .int .i64 q2.hp.tk, .int .i64 q2.depth], TR (.slice Az n2 cz) n2 q2.ev, TB gz 44 #[.slice Az n2 cz, .int .i64 q2.fin, .int .i64 q2.kind, .int .i64 q2.val, .int .i64 q2.steps, .int .i64 q2.hp.tk, .int .i64 q2.depth], TR (.slice Aw n2 cw) n2 q2.ev, TB gw 44 #[.slice Aw n2 cw, .int .i64 q2.fin, .int .i64 q2.kind, .int .i64 q2.val, .int .i64 q2.steps, .int .i64 q2.hp.tk, .int .i64 q2.depth]]) := fun wx zx h => h.same 10 12 HN2.out hev rfl rfl _ _ _ _ _ _
      have y0 := (Se.out.cells 9 rfl).cell 0
      have y1 := (Se.out.cells 9 rfl).cell 1
      have y2 := (Se.out.cells 9 rfl).cell 2
      have y3 := (Se.out.cells 9 rfl).cell 3
      have y4 := (Se.out.cells 9 rfl).cell 4
      have y5 := (Se.out.cells 9 rfl).cell 5
      have y6 := (Se.out.cells 9 rfl).cell 6
      have x0 := (Se.out.cells 11 rfl).cell 0
      have x1 := (Se.out.cells 11 rfl).cell 1
      have x2 := (Se.out.cells 11 rfl).cell 2
      have x3 := (Se.out.cells 11 rfl).cell 3
      have x4 := (Se.out.cells 11 rfl).cell 4
      have x5 := (Se.out.cells 11 rfl).cell 5
      have x6 := (Se.out.cells 11 rfl).cell 6
      simp only [List.getElem?_toArray, List.getElem?_cons_zero, List.getElem?_cons_succ] at y0 y1 y2 y3 y4 y5 y6 x0 x1 x2 x3 x4 x5 x6
      have hs1' : ¬ (a : Int) < q1.steps := by omega
      have hn12' : ¬ (n2 : Int) < (n1 : Int) := by omega
      have HLIM : Hid (n1 ≤ n2 ∧ n2 ≤ 1048576) := ⟨hn12, hev⟩
      go_upto_block 2 with (first
        | (have X1 := Sf; go_at_call 23; refine (SZ.out _ _ X1.out).mono ?_; rintro e wg ⟨rfl, fg⟩; have Sg := Lib.hid fg; have c4 := (Sg.out.cells 11 rfl).cell 4; have c0 := (Sg.out.cells 11 rfl).cell 0; have d0 := (Sg.out.cells 7 rfl).cell 0; have d4 := (Sg.out.cells 7 rfl).cell 4; simp only [List.getElem?_toArray, List.getElem?_cons_zero, List.getElem?_cons_succ] at c0 c4 d0 d4; clear fg)
        | (go_at_call 23; refine (SA.out _ _ Se.out).mono ?_; rintro e wf ⟨rfl, ff⟩; have Sf := Lib.hid ff; have u0 := (Sf.out.cells 11 rfl).cell 0; have u1 := (Sf.out.cells 11 rfl).cell 1; have u2 := (Sf.out.cells 11 rfl).cell 2; have u3 := (Sf.out.cells 11 rfl).cell 3; have u4 := (Sf.out.cells 11 rfl).cell 4; have u5 := (Sf.out.cells 11 rfl).cell 5; have u6 := (Sf.out.cells 11 rfl).cell 6; have v0 := (Sf.out.cells 13 rfl).cell 0; have v1 := (Sf.out.cells 13 rfl).cell 1; have v2 := (Sf.out.cells 13 rfl).cell 2; have v3 := (Sf.out.cells 13 rfl).cell 3; have v4 := (Sf.out.cells 13 rfl).cell 4; have v5 := (Sf.out.cells 13 rfl).cell 5; have v6 := (Sf.out.cells 13 rfl).cell 6; simp only [List.getElem?_toArray, List.getElem?_cons_zero, List.getElem?_cons_succ] at u0 u1 u2 u3 u4 u5 u6 v0 v1 v2 v3 v4 v5 v6; clear ff))
      clear SA SZ Se Sf X1 x0 x1 x2 x3 x4 x5 x6 y0 y1 y2 y3 y4 y5 y6 u0 u1 u2 u3 u4 u5 u6 v0 v1 v2 v3 v4 v5 v6 c0 c4 d4 hs1' hn12' hs1 hs1b hn12 hev M2
      clear d0
      go_wp2_with fail
      go_loopg [28] (n1) (fun gk v28 wx => ∃ j : Nat, v28 = .int .i64 (j : Int) ∧ j + gk = n1 ∧ Hid (Fam wx ze [TL w, TB w.heap.size 25 #[.slice A ni ci, .slice B nf cf, .int .i64 m], TB (w.heap.size + 1) 38 #[.int .i64 sl, .int .i64 hl], TM g1 K q2, TM g2 K q2, TM g3 K q2, TR (.slice Ax n1 cx) n1 q1.ev, TB gx 44 #[.slice Ax n1 cx, .int .i64 fx, .int .i64 q1.kind, .int .i64 q1.val, .int .i64 q1.steps, .int .i64 q1.hp.tk, .int .i64 q1.depth], TR (.slice Ay n2 cy) n2 q2.ev, TB gy 44 #[.slice Ay n2 cy, .int .i64 q2.fin, .int .i64 q2.kind, .int .i64 q2.val, .int .i64 q2.steps, .int .i64 q2.hp.tk, .int .i64 q2.depth], TR (.slice Az n2 cz) n2 q2.ev, TB gz 44 #[.slice Az n2 cz, .int .i64 q2.fin, .int .i64 q2.kind, .int .i64 q2.val, .int .i64 q2.steps, .int .i64 q2.hp.tk, .int .i64 q2.depth], TR (.slice Aw n2 cw) n2 q2.ev, TB gw 44 #[.slice Aw n2 cw, .int .i64 q2.fin, .int .i64 q2.kind, .int .i64 q2.val, .int .i64 q2.steps, .int .i64 q2.hp.tk, .int .i64 q2.depth]]))
      case atStart => exact ⟨0, rfl, by omega, Sg⟩
      case round =>
        clear Sg
        obtain ⟨j, rfl, hjg, S⟩ := hrel
        have d0 := (S.out.cells 7 rfl).cell 0
        have c0 := (S.out.cells 11 rfl).cell 0
        simp only [List.getElem?_toArray, List.getElem?_cons_zero, List.getElem?_cons_succ] at c0 d0
        have hn12 := HLIM.out.1
        have hn20 := HLIM.out.2
        by_cases hj : j < n1
        · obtain ⟨k, rfl⟩ : ∃ k, gk = k + 1 := ⟨gk - 1, by omega⟩
          obtain ⟨eb, ecap, hAx, -⟩ := (S.out.row 6 rfl).form (by omega)
          obtain ⟨fb, fcap, hAz, -⟩ := (S.out.row 10 rfl).form (by omega)
          have ex1 : Ax = some ⟨eb, 0, none⟩ := by injection hAx
          have ex2 : cx = ecap := by injection hAx
          have ez1 : Az = some ⟨fb, 0, none⟩ := by injection hAz
          have ez2 : cz = fcap := by injection hAz
          clear hAx hAz HE
          subst ex1 ex2 ez1 ez2
          have g1' : q1.ev[j]? = some (q1.ev[j]'(by rw [HN1.out]; exact hj)) := List.getElem?_eq_getElem _
          have g2' : q2.ev[j]? = some (q1.ev[j]'(by rw [HN1.out]; exact hj)) := by rw [HL.out, List.getElem?_append_left (by rw [HN1.out]; exact hj)]; exact g1'
          obtain ⟨a0, a1⟩ := evs_at2 _ _ _ g1'
          obtain ⟨b0', b1'⟩ := evs_at2 _ _ _ g2'
          generalize q1.ev[j]'(by rw [HN1.out]; exact hj) = ej at *
          obtain ⟨e0, e1⟩ := ej
          have k0 := (S.out.row 6 rfl).cell a0
          have k1 := (S.out.row 6 rfl).cell a1
          have l0 := (S.out.row 10 rfl).cell b0'
          have l1 := (S.out.row 10 rfl).cell b1'
          simp only [Nat.mul_comm 2 j] at k0 k1 l0 l1
          have SQ := Lib.hid (fun r => S.out.quiet ((Only.refl _ wr).drewN r))
          have hnn : (j : Int) + 1 ≤ 9223372036854775807 := by omega
          clear S a0 a1 b0' b1' g1' g2'
          go_wp2_with fail
          go_quiet (fail)
          go_wp2_with fail
          go_roundg k
          case rel => exact ⟨j + 1, by go_num, by omega, SQ.out _⟩
          case measure => omega
        · have hd : ¬ (j : Int) < (n1 : Int) := by omega
          go_upto_region 31 with fail
          clear c0 d0
          go_upto_region 32 with (go_at_call 20; refine (run_neg _ g1 _ (by omega)).mono ?_; rintro e wf ⟨rfl, bf⟩)
          have T1 := Lib.hid ((S.out.quiet (Only.ofBelow bf)).quiet ((Only.refl (fun _ => False) wf).alloc (.cells #[.slice none 0 0, .int .i64 0, .int .i64 0, .int .i64 0, .int .i64 0, .int .i64 0, .int .i64 0] 44)))
          clear S bf
          generalize World.alloc wf _ = wg at *
          go_upto_region 33 with (go_at_call 20; refine (run_big _ g1 _ (by omega) (by omega)).mono ?_; rintro e wh ⟨rfl, bh⟩)
          have T2 := Lib.hid ((T1.out.quiet (Only.ofBelow bh)).quiet ((Only.refl (fun _ => False) wh).alloc (.cells #[.slice none 0 0, .int .i64 0, .int .i64 0, .int .i64 0, .int .i64 0, .int .i64 0, .int .i64 0] 44)))
          clear T1 bh
          generalize World.alloc wh _ = wi at *
          have TD := Lib.hid (T2.out.quiet ((Only.refl (fun _ => False) wi).drew))
          have OC := Lib.hid (TD.out.outc 3 g1 rfl (QV.of q2))
          rw [HN2.out] at OC
          have SV : Hid (∀ wx zy (Av : Option Addr) (cv : Nat), Fam wx zy ([TL w, TB w.heap.size 25 #[.slice A ni ci, .slice B nf cf, .int .i64 m], TB (w.heap.size + 1) 38 #[.int .i64 sl, .int .i64 hl], TM g1 K q2, TM g2 K q2, TM g3 K q2, TR (.slice Ax n1 cx) n1 q1.ev, TB gx 44 #[.slice Ax n1 cx, .int .i64 fx, .int .i64 q1.kind, .int .i64 q1.val, .int .i64 q1.steps, .int .i64 q1.hp.tk, .int .i64 q1.depth], TR (.slice Ay n2 cy) n2 q2.ev, TB gy 44 #[.slice Ay n2 cy, .int .i64 q2.fin, .int .i64 q2.kind, .int .i64 q2.val, .int .i64 q2.steps, .int .i64 q2.hp.tk, .int .i64 q2.depth], TR (.slice Az n2 cz) n2 q2.ev, TB gz 44 #[.slice Az n2 cz, .int .i64 q2.fin, .int .i64 q2.kind, .int .i64 q2.val, .int .i64 q2.steps, .int .i64 q2.hp.tk, .int .i64 q2.depth], TR (.slice Aw n2 cw) n2 q2.ev, TB gw 44 #[.slice Aw n2 cw, .int .i64 q2.fin, .int .i64 q2.kind, .int .i64 q2.val, .int .i64 q2.steps, .int .i64 q2.hp.tk, .int .i64 q2.depth]] ++ [TR (.slice Av n2 cv) n2 q2.ev]) → Calls Try.prog 23 #[.agg #[.slice Av n2 cv, .int .i64 q2.fin, .int .i64 q2.kind, .int .i64 q2.val, .int .i64 q2.steps, .int .i64 q2.hp.tk, .int .i64 q2.depth], .agg #[.slice Az n2 cz, .int .i64 q2.fin, .int .i64 q2.kind, .int .i64 q2.val, .int .i64 q2.steps, .int .i64 q2.hp.tk, .int .i64 q2.depth]] wx fun e w' => e = .returned (.bool true) ∧ Fam w' zy ([TL w, TB w.heap.size 25 #[.slice A ni ci, .slice B nf cf, .int .i64 m], TB (w.heap.size + 1) 38 #[.int .i64 sl, .int .i64 hl], TM g1 K q2, TM g2 K q2, TM g3 K q2, TR (.slice Ax n1 cx) n1 q1.ev, TB gx 44 #[.slice Ax n1 cx, .int .i64 fx, .int .i64 q1.kind, .int .i64 q1.val, .int .i64 q1.steps, .int .i64 q1.hp.tk, .int .i64 q1.depth], TR (.slice Ay n2 cy) n2 q2.ev, TB gy 44 #[.slice Ay n2 cy, .int .i64 q2.fin, .int .i64 q2.kind, .int .i64 q2.val, .int .i64 q2.steps, .int .i64 q2.hp.tk, .int .i64 q2.depth], TR (.slice Az n2 cz) n2 q2.ev, TB gz 44 #[.slice Az n2 cz, .int .i64 q2.fin, .int .i64 q2.kind, .int .i64 q2.val, .int .i64 q2.steps, .int .i64 q2.hp.tk, .int .i64 q2.depth], TR (.slice Aw n2 cw) n2 q2.ev, TB gw 44 #[.slice Aw n2 cw, .int .i64 q2.fin, .int .i64 q2.kind, .int .i64 q2.val, .int .i64 q2.steps, .int .i64 q2.hp.tk, .int .i64 q2.depth]] ++ [TR (.slice Av n2 cv) n2 q2.ev])) := fun wx zy Av cv h => h.same 14 10 HN2.out hn20 rfl rfl _ _ _ _ _ _
          have p0 : wi.cell? ⟨gx, 0, none⟩ = some (.slice Ax n1 cx) := (T2.out.cells 7 rfl).cell 0
          have p1 : wi.cell? ⟨gx, 1, none⟩ = some (.int .i64 fx) := (T2.out.cells 7 rfl).cell 1
          have p2 : wi.cell? ⟨gx, 2, none⟩ = some (.int .i64 q1.kind) := (T2.out.cells 7 rfl).cell 2
          have p3 : wi.cell? ⟨gx, 3, none⟩ = some (.int .i64 q1.val) := (T2.out.cells 7 rfl).cell 3
          have p4 : wi.cell? ⟨gx, 4, none⟩ = some (.int .i64 q1.steps) := (T2.out.cells 7 rfl).cell 4
          have p5 : wi.cell? ⟨gx, 5, none⟩ = some (.int .i64 q1.hp.tk) := (T2.out.cells 7 rfl).cell 5
          have p6 : wi.cell? ⟨gx, 6, none⟩ = some (.int .i64 q1.depth) := (T2.out.cells 7 rfl).cell 6
          have p7 : wi.cell? ⟨gz, 0, none⟩ = some (.slice Az n2 cz) := (T2.out.cells 11 rfl).cell 0
          have p8 : wi.cell? ⟨gz, 1, none⟩ = some (.int .i64 q2.fin) := (T2.out.cells 11 rfl).cell 1
          have p9 : wi.cell? ⟨gz, 2, none⟩ = some (.int .i64 q2.kind) := (T2.out.cells 11 rfl).cell 2
          have p10 : wi.cell? ⟨gz, 3, none⟩ = some (.int .i64 q2.val) := (T2.out.cells 11 rfl).cell 3
          have p11 : wi.cell? ⟨gz, 4, none⟩ = some (.int .i64 q2.steps) := (T2.out.cells 11 rfl).cell 4
          have p12 : wi.cell? ⟨gz, 5, none⟩ = some (.int .i64 q2.hp.tk) := (T2.out.cells 11 rfl).cell 5
          have p13 : wi.cell? ⟨gz, 6, none⟩ = some (.int .i64 q2.depth) := (T2.out.cells 11 rfl).cell 6
          clear T2
          by_cases h0 : fx = 0
          · subst h0
            refine wp_region_noPanic ?_
            refine wp_region_held_drew (S := (fun w' => w'.cell? ⟨gx, 0, none⟩ = some (.slice Ax n1 cx) ∧ w'.cell? ⟨gx, 1, none⟩ = some (.int .i64 0) ∧ w'.cell? ⟨gx, 2, none⟩ = some (.int .i64 q1.kind) ∧ w'.cell? ⟨gx, 3, none⟩ = some (.int .i64 q1.val) ∧ w'.cell? ⟨gx, 4, none⟩ = some (.int .i64 q1.steps) ∧ w'.cell? ⟨gx, 5, none⟩ = some (.int .i64 q1.hp.tk) ∧ w'.cell? ⟨gx, 6, none⟩ = some (.int .i64 q1.depth) ∧ w'.cell? ⟨gz, 0, none⟩ = some (.slice Az n2 cz) ∧ w'.cell? ⟨gz, 1, none⟩ = some (.int .i64 q2.fin) ∧ w'.cell? ⟨gz, 2, none⟩ = some (.int .i64 q2.kind) ∧ w'.cell? ⟨gz, 3, none⟩ = some (.int .i64 q2.val) ∧ w'.cell? ⟨gz, 4, none⟩ = some (.int .i64 q2.steps) ∧ w'.cell? ⟨gz, 5, none⟩ = some (.int .i64 q2.hp.tk) ∧ w'.cell? ⟨gz, 6, none⟩ = some (.int .i64 q2.depth))) (by kernel_rfl) (by first | (go_keep; done) | (go_split_ands; first | exact ⟨s0, s1, s2, s3, s4, s5, s6, s7, s8, s9, s10, s11, s12, s13⟩ | exact ⟨r0, r1, r2, r3, r4, r5, r6, r7, r8, r9, r10, r11, r12, r13⟩ | exact ⟨p0, p1, p2, p3, p4, p5, p6, p7, p8, p9, p10, p11, p12, p13⟩)) (fun hHeld => ?_)
            refine wpAnyH_take (i := 0) (v := ?_) (by simp only [List.getElem?_toArray, List.getElem?_cons_succ, List.getElem?_cons_zero]; rfl) (by kernel_rfl) (by kernel_rfl) (by kernel_rfl) (by exact fun _ _ _ h => h) (Or.inl ⟨by rfl, ?_⟩) (by assumption) ?_
            rotate_left
            · (intro w hSw; (try dsimp only at hSw); go_simp; skip; with_reducible rfl)
            try simp only [Act.put, List.setIfInBounds_toArray, List.set_cons_zero, List.set_cons_succ]
            refine wpAnyH_ready (rs := [1]) (by kernel_rfl) (by simp) ?_
            refine AllReadyH.cons (by simp only [List.getElem?_toArray, List.getElem?_cons_succ, List.getElem?_cons_zero]; rfl) (fun KK hKK => ?_) ?_
            · go_simp
              go_at_call 18
              refine (num_c _ _).mono ?_
              rintro e w9 ⟨rfl, hw9⟩
              subst hw9
              go_wp2_with fail
              refine hKK.out _ _ (by first | (go_keep; done) | (go_split_ands; first | exact ⟨s0, s1, s2, s3, s4, s5, s6, s7, s8, s9, s10, s11, s12, s13⟩ | exact ⟨r0, r1, r2, r3, r4, r5, r6, r7, r8, r9, r10, r11, r12, r13⟩ | exact ⟨p0, p1, p2, p3, p4, p5, p6, p7, p8, p9, p10, p11, p12, p13⟩)) (fun hHeld => ?_)
              clear hKK KK
              try simp only [Act.put, List.setIfInBounds_toArray, List.set_cons_zero, List.set_cons_succ]
              refine wpAnyH_take (i := 2) (v := ?_) (by simp only [List.getElem?_toArray, List.getElem?_cons_succ, List.getElem?_cons_zero]; rfl) (by kernel_rfl) (by kernel_rfl) (by kernel_rfl) (by exact fun _ _ _ h => h) (Or.inl ⟨by rfl, ?_⟩) (by assumption) ?_
              rotate_left
              · (intro w hSw; (try dsimp only at hSw); go_simp; skip; with_reducible rfl)
              try simp only [Act.put, List.setIfInBounds_toArray, List.set_cons_zero, List.set_cons_succ]
              refine wpAnyH_take (i := 3) (v := ?_) (by simp only [List.getElem?_toArray, List.getElem?_cons_succ, List.getElem?_cons_zero]; rfl) (by kernel_rfl) (by kernel_rfl) (by kernel_rfl) (by exact fun _ _ _ h => h) (Or.inl ⟨by rfl, ?_⟩) (by assumption) ?_
              rotate_left
              · (intro w hSw; (try dsimp only at hSw); go_simp; skip; with_reducible rfl)
              try simp only [Act.put, List.setIfInBounds_toArray, List.set_cons_zero, List.set_cons_succ]
              refine wpAnyH_take (i := 4) (v := ?_) (by simp only [List.getElem?_toArray, List.getElem?_cons_succ, List.getElem?_cons_zero]; rfl) (by kernel_rfl) (by kernel_rfl) (by kernel_rfl) (by exact fun _ _ _ h => h) (Or.inl ⟨by rfl, ?_⟩) (by assumption) ?_
              rotate_left
              · (intro w hSw; (try dsimp only at hSw); go_simp; skip; with_reducible rfl)
              try simp only [Act.put, List.setIfInBounds_toArray, List.set_cons_zero, List.set_cons_succ]
              refine wpAnyH_ready (rs := [5]) (by kernel_rfl) (by simp) ?_
              refine AllReadyH.cons (by simp only [List.getElem?_toArray, List.getElem?_cons_succ, List.getElem?_cons_zero]; rfl) (fun KK hKK => ?_) ?_
              · go_simp
                go_at_call 18
                refine (num_c _ _).mono ?_
                rintro e w9 ⟨rfl, hw9⟩
                subst hw9
                go_wp2_with fail
                refine hKK.out _ _ (by first | (go_keep; done) | (go_split_ands; first | exact ⟨s0, s1, s2, s3, s4, s5, s6, s7, s8, s9, s10, s11, s12, s13⟩ | exact ⟨r0, r1, r2, r3, r4, r5, r6, r7, r8, r9, r10, r11, r12, r13⟩ | exact ⟨p0, p1, p2, p3, p4, p5, p6, p7, p8, p9, p10, p11, p12, p13⟩)) (fun hHeld => ?_)
                clear hKK KK
                try simp only [Act.put, List.setIfInBounds_toArray, List.set_cons_zero, List.set_cons_succ]
                refine wpAnyH_take (i := 6) (v := ?_) (by simp only [List.getElem?_toArray, List.getElem?_cons_succ, List.getElem?_cons_zero]; rfl) (by kernel_rfl) (by kernel_rfl) (by kernel_rfl) (by exact fun _ _ _ h => h) (Or.inl ⟨by rfl, ?_⟩) (by assumption) ?_
                rotate_left
                · (intro w hSw; (try dsimp only at hSw); go_simp; skip; with_reducible rfl)
                try simp only [Act.put, List.setIfInBounds_toArray, List.set_cons_zero, List.set_cons_succ]
                refine wpAnyH_take (i := 7) (v := ?_) (by simp only [List.getElem?_toArray, List.getElem?_cons_succ, List.getElem?_cons_zero]; rfl) (by kernel_rfl) (by kernel_rfl) (by kernel_rfl) (by exact fun _ _ _ h => h) (Or.inl ⟨by rfl, ?_⟩) (by assumption) ?_
                rotate_left
                · (intro w hSw; (try dsimp only at hSw); go_simp; skip; with_reducible rfl)
                try simp only [Act.put, List.setIfInBounds_toArray, List.set_cons_zero, List.set_cons_succ]
                refine wpAnyH_take (i := 8) (v := ?_) (by simp only [List.getElem?_toArray, List.getElem?_cons_succ, List.getElem?_cons_zero]; rfl) (by kernel_rfl) (by kernel_rfl) (by kernel_rfl) (by exact fun _ _ _ h => h) (Or.inl ⟨by rfl, ?_⟩) (by assumption) ?_
                rotate_left
                · (intro w hSw; (try dsimp only at hSw); go_simp; skip; with_reducible rfl)
                try simp only [Act.put, List.setIfInBounds_toArray, List.set_cons_zero, List.set_cons_succ]
                refine wpAnyH_take (i := 9) (v := ?_) (by simp only [List.getElem?_toArray, List.getElem?_cons_succ, List.getElem?_cons_zero]; rfl) (by kernel_rfl) (by kernel_rfl) (by kernel_rfl) (by exact fun _ _ _ h => h) (Or.inl ⟨by rfl, ?_⟩) (by assumption) ?_
                rotate_left
                · (intro w hSw; (try dsimp only at hSw); go_simp; skip; with_reducible rfl)
                try simp only [Act.put, List.setIfInBounds_toArray, List.set_cons_zero, List.set_cons_succ]
                refine wpAnyH_take (i := 11) (v := ?_) (by simp only [List.getElem?_toArray, List.getElem?_cons_succ, List.getElem?_cons_zero]; rfl) (by kernel_rfl) (by kernel_rfl) (by kernel_rfl) (by exact fun _ _ _ h => h) (Or.inl ⟨by rfl, ?_⟩) (by assumption) ?_
                rotate_left
                · (intro w hSw; (try dsimp only at hSw); go_simp; skip; with_reducible rfl)
                try simp only [Act.put, List.setIfInBounds_toArray, List.set_cons_zero, List.set_cons_succ]
                refine wpAnyH_ready (rs := [10]) (by kernel_rfl) (by simp) ?_
                refine AllReadyH.cons (by simp only [List.getElem?_toArray, List.getElem?_cons_succ, List.getElem?_cons_zero]; rfl) (fun KK hKK => ?_) ?_
                · go_simp
                  go_at_call 22
                  refine OC.out.mono ?_
                  rintro e wj ⟨Av, cv, zj, rfl, fj⟩
                  have V1 := Lib.hid fj
                  have r0 : wj.cell? ⟨gx, 0, none⟩ = some (.slice Ax n1 cx) := (V1.out.cells 7 rfl).cell 0
                  have r1 : wj.cell? ⟨gx, 1, none⟩ = some (.int .i64 0) := (V1.out.cells 7 rfl).cell 1
                  have r2 : wj.cell? ⟨gx, 2, none⟩ = some (.int .i64 q1.kind) := (V1.out.cells 7 rfl).cell 2
                  have r3 : wj.cell? ⟨gx, 3, none⟩ = some (.int .i64 q1.val) := (V1.out.cells 7 rfl).cell 3
                  have r4 : wj.cell? ⟨gx, 4, none⟩ = some (.int .i64 q1.steps) := (V1.out.cells 7 rfl).cell 4
                  have r5 : wj.cell? ⟨gx, 5, none⟩ = some (.int .i64 q1.hp.tk) := (V1.out.cells 7 rfl).cell 5
                  have r6 : wj.cell? ⟨gx, 6, none⟩ = some (.int .i64 q1.depth) := (V1.out.cells 7 rfl).cell 6
                  have r7 : wj.cell? ⟨gz, 0, none⟩ = some (.slice Az n2 cz) := (V1.out.cells 11 rfl).cell 0
                  have r8 : wj.cell? ⟨gz, 1, none⟩ = some (.int .i64 q2.fin) := (V1.out.cells 11 rfl).cell 1
                  have r9 : wj.cell? ⟨gz, 2, none⟩ = some (.int .i64 q2.kind) := (V1.out.cells 11 rfl).cell 2
                  have r10 : wj.cell? ⟨gz, 3, none⟩ = some (.int .i64 q2.val) := (V1.out.cells 11 rfl).cell 3
                  have r11 : wj.cell? ⟨gz, 4, none⟩ = some (.int .i64 q2.steps) := (V1.out.cells 11 rfl).cell 4
                  have r12 : wj.cell? ⟨gz, 5, none⟩ = some (.int .i64 q2.hp.tk) := (V1.out.cells 11 rfl).cell 5
                  have r13 : wj.cell? ⟨gz, 6, none⟩ = some (.int .i64 q2.depth) := (V1.out.cells 11 rfl).cell 6
                  clear fj
                  go_wp2_with fail
                  refine hKK.out _ _ (by first | (go_keep; done) | (go_split_ands; first | exact ⟨s0, s1, s2, s3, s4, s5, s6, s7, s8, s9, s10, s11, s12, s13⟩ | exact ⟨r0, r1, r2, r3, r4, r5, r6, r7, r8, r9, r10, r11, r12, r13⟩ | exact ⟨p0, p1, p2, p3, p4, p5, p6, p7, p8, p9, p10, p11, p12, p13⟩)) (fun hHeld => ?_)
                  clear hKK KK
                  try simp only [Act.put, List.setIfInBounds_toArray, List.set_cons_zero, List.set_cons_succ]
                  refine wpAnyH_ready (rs := [12]) (by kernel_rfl) (by simp) ?_
                  refine AllReadyH.cons (by simp only [List.getElem?_toArray, List.getElem?_cons_succ, List.getElem?_cons_zero]; rfl) (fun KK hKK => ?_) ?_
                  · go_simp
                    go_at_call 23
                    refine (SV.out _ _ _ _ V1.out).mono ?_
                    rintro e wk ⟨rfl, fk⟩
                    have V2 := Lib.hid fk
                    have s0 : wk.cell? ⟨gx, 0, none⟩ = some (.slice Ax n1 cx) := (V2.out.cells 7 rfl).cell 0
                    have s1 : wk.cell? ⟨gx, 1, none⟩ = some (.int .i64 0) := (V2.out.cells 7 rfl).cell 1
                    have s2 : wk.cell? ⟨gx, 2, none⟩ = some (.int .i64 q1.kind) := (V2.out.cells 7 rfl).cell 2
                    have s3 : wk.cell? ⟨gx, 3, none⟩ = some (.int .i64 q1.val) := (V2.out.cells 7 rfl).cell 3
                    have s4 : wk.cell? ⟨gx, 4, none⟩ = some (.int .i64 q1.steps) := (V2.out.cells 7 rfl).cell 4
                    have s5 : wk.cell? ⟨gx, 5, none⟩ = some (.int .i64 q1.hp.tk) := (V2.out.cells 7 rfl).cell 5
                    have s6 : wk.cell? ⟨gx, 6, none⟩ = some (.int .i64 q1.depth) := (V2.out.cells 7 rfl).cell 6
                    have s7 : wk.cell? ⟨gz, 0, none⟩ = some (.slice Az n2 cz) := (V2.out.cells 11 rfl).cell 0
                    have s8 : wk.cell? ⟨gz, 1, none⟩ = some (.int .i64 q2.fin) := (V2.out.cells 11 rfl).cell 1
                    have s9 : wk.cell? ⟨gz, 2, none⟩ = some (.int .i64 q2.kind) := (V2.out.cells 11 rfl).cell 2
                    have s10 : wk.cell? ⟨gz, 3, none⟩ = some (.int .i64 q2.val) := (V2.out.cells 11 rfl).cell 3
                    have s11 : wk.cell? ⟨gz, 4, none⟩ = some (.int .i64 q2.steps) := (V2.out.cells 11 rfl).cell 4
                    have s12 : wk.cell? ⟨gz, 5, none⟩ = some (.int .i64 q2.hp.tk) := (V2.out.cells 11 rfl).cell 5
                    have s13 : wk.cell? ⟨gz, 6, none⟩ = some (.int .i64 q2.depth) := (V2.out.cells 11 rfl).cell 6
                    clear fk
                    go_wp2_with fail
                    refine hKK.out _ _ (by first | (go_keep; done) | (go_split_ands; first | exact ⟨s0, s1, s2, s3, s4, s5, s6, s7, s8, s9, s10, s11, s12, s13⟩ | exact ⟨r0, r1, r2, r3, r4, r5, r6, r7, r8, r9, r10, r11, r12, r13⟩ | exact ⟨p0, p1, p2, p3, p4, p5, p6, p7, p8, p9, p10, p11, p12, p13⟩)) (fun hHeld => ?_)
                    clear hKK KK
                    try simp only [Act.put, List.setIfInBounds_toArray, List.set_cons_zero, List.set_cons_succ]
                    refine wpAnyH_take (i := 13) (v := ?_) (by simp only [List.getElem?_toArray, List.getElem?_cons_succ, List.getElem?_cons_zero]; rfl) (by kernel_rfl) (by kernel_rfl) (by kernel_rfl) (by exact fun _ _ _ h => h) (Or.inl ⟨by rfl, ?_⟩) (by assumption) ?_
                    rotate_left
                    · (intro w hSw; (try dsimp only at hSw); go_simp; skip; with_reducible rfl)
                    try simp only [Act.put, List.setIfInBounds_toArray, List.set_cons_zero, List.set_cons_succ]
                    refine wpAnyH_take (i := 14) (v := ?_) (by simp only [List.getElem?_toArray, List.getElem?_cons_succ, List.getElem?_cons_zero]; rfl) (by kernel_rfl) (by kernel_rfl) (by kernel_rfl) (by exact fun _ _ _ h => h) (Or.inl ⟨by rfl, ?_⟩) (by assumption) ?_
                    rotate_left
                    · (intro w hSw; (try dsimp only at hSw); go_simp; skip; with_reducible rfl)
                    try simp only [Act.put, List.setIfInBounds_toArray, List.set_cons_zero, List.set_cons_succ]
                    refine wpAnyH_take (i := 15) (v := ?_) (by simp only [List.getElem?_toArray, List.getElem?_cons_succ, List.getElem?_cons_zero]; rfl) (by kernel_rfl) (by kernel_rfl) (by kernel_rfl) (by exact fun _ _ _ h => h) (Or.inl ⟨by rfl, ?_⟩) (by assumption) ?_
                    rotate_left
                    · (intro w hSw; (try dsimp only at hSw); go_simp; skip; with_reducible rfl)
                    try simp only [Act.put, List.setIfInBounds_toArray, List.set_cons_zero, List.set_cons_succ]
                    refine wpAnyH_take (i := 16) (v := ?_) (by simp only [List.getElem?_toArray, List.getElem?_cons_succ, List.getElem?_cons_zero]; rfl) (by kernel_rfl) (by kernel_rfl) (by kernel_rfl) (by exact fun _ _ _ h => h) (Or.inl ⟨by rfl, ?_⟩) (by assumption) ?_
                    rotate_left
                    · (intro w hSw; (try dsimp only at hSw); go_simp; skip; with_reducible rfl)
                    try simp only [Act.put, List.setIfInBounds_toArray, List.set_cons_zero, List.set_cons_succ]
                    refine wpAnyH_take (i := 17) (v := ?_) (by simp only [List.getElem?_toArray, List.getElem?_cons_succ, List.getElem?_cons_zero]; rfl) (by kernel_rfl) (by kernel_rfl) (by kernel_rfl) (by exact fun _ _ _ h => h) (Or.inl ⟨by rfl, ?_⟩) (by assumption) ?_
                    rotate_left
                    · (intro w hSw; (try dsimp only at hSw); go_simp; skip; with_reducible rfl)
                    try simp only [Act.put, List.setIfInBounds_toArray, List.set_cons_zero, List.set_cons_succ]
                    refine wpAnyH_take (i := 18) (v := ?_) (by simp only [List.getElem?_toArray, List.getElem?_cons_succ, List.getElem?_cons_zero]; rfl) (by kernel_rfl) (by kernel_rfl) (by kernel_rfl) (by exact fun _ _ _ h => h) (Or.inl ⟨by rfl, ?_⟩) (by assumption) ?_
                    rotate_left
                    · (intro w hSw; (try dsimp only at hSw); go_simp; skip; with_reducible rfl)
                    try simp only [Act.put, List.setIfInBounds_toArray, List.set_cons_zero, List.set_cons_succ]
                    refine wpAnyH_ready (rs := [19, 20]) (by kernel_rfl) (by simp) ?_
                    refine AllReadyH.cons (by simp only [List.getElem?_toArray, List.getElem?_cons_succ, List.getElem?_cons_zero]; rfl) (fun KK hKK => ?_) ?_
                    · go_simp
                      refine hKK.out _ _ (by first | (go_keep; done) | (go_split_ands; first | exact ⟨s0, s1, s2, s3, s4, s5, s6, s7, s8, s9, s10, s11, s12, s13⟩ | exact ⟨r0, r1, r2, r3, r4, r5, r6, r7, r8, r9, r10, r11, r12, r13⟩ | exact ⟨p0, p1, p2, p3, p4, p5, p6, p7, p8, p9, p10, p11, p12, p13⟩)) (fun hHeld => ?_)
                      clear hKK KK
                      try simp only [Act.put, List.setIfInBounds_toArray, List.set_cons_zero, List.set_cons_succ]
                      refine wpAnyH_ready (rs := [20]) (by kernel_rfl) (by simp) ?_
                      refine AllReadyH.cons (by simp only [List.getElem?_toArray, List.getElem?_cons_succ, List.getElem?_cons_zero]; rfl) (fun KK hKK => ?_) ?_
                      · go_simp
                        refine hKK.out _ _ (by first | (go_keep; done) | (go_split_ands; first | exact ⟨s0, s1, s2, s3, s4, s5, s6, s7, s8, s9, s10, s11, s12, s13⟩ | exact ⟨r0, r1, r2, r3, r4, r5, r6, r7, r8, r9, r10, r11, r12, r13⟩ | exact ⟨p0, p1, p2, p3, p4, p5, p6, p7, p8, p9, p10, p11, p12, p13⟩)) (fun hHeld => ?_)
                        clear hKK KK
                        try simp only [Act.put, List.setIfInBounds_toArray, List.set_cons_zero, List.set_cons_succ]
                        refine wpAnyH_ready (rs := [21]) (by kernel_rfl) (by simp) ?_
                        refine AllReadyH.cons (by simp only [List.getElem?_toArray, List.getElem?_cons_succ, List.getElem?_cons_zero]; rfl) (fun KK hKK => ?_) ?_
                        · go_simp
                          refine hKK.out _ _ (by first | (go_keep; done) | (go_split_ands; first | exact ⟨s0, s1, s2, s3, s4, s5, s6, s7, s8, s9, s10, s11, s12, s13⟩ | exact ⟨r0, r1, r2, r3, r4, r5, r6, r7, r8, r9, r10, r11, r12, r13⟩ | exact ⟨p0, p1, p2, p3, p4, p5, p6, p7, p8, p9, p10, p11, p12, p13⟩)) (fun hHeld => ?_)
                          clear hKK KK
                          try simp only [Act.put, List.setIfInBounds_toArray, List.set_cons_zero, List.set_cons_succ]
                          refine wpAnyH_take (i := 22) (v := ?_) (by simp only [List.getElem?_toArray, List.getElem?_cons_succ, List.getElem?_cons_zero]; rfl) (by kernel_rfl) (by kernel_rfl) (by kernel_rfl) (by exact fun _ _ _ h => h) (Or.inl ⟨by rfl, ?_⟩) (by assumption) ?_
                          rotate_left
                          · (intro w hSw; (try dsimp only at hSw); go_simp; skip; with_reducible rfl)
                          try simp only [Act.put, List.setIfInBounds_toArray, List.set_cons_zero, List.set_cons_succ]
                          refine wpAnyH_take (i := 23) (v := ?_) (by simp only [List.getElem?_toArray, List.getElem?_cons_succ, List.getElem?_cons_zero]; rfl) (by kernel_rfl) (by kernel_rfl) (by kernel_rfl) (by exact fun _ _ _ h => h) (Or.inl ⟨by rfl, ?_⟩) (by assumption) ?_
                          rotate_left
                          · (intro w hSw; (try dsimp only at hSw); go_simp; skip; with_reducible rfl)
                          try simp only [Act.put, List.setIfInBounds_toArray, List.set_cons_zero, List.set_cons_succ]
                          refine wpAnyH_take (i := 24) (v := ?_) (by simp only [List.getElem?_toArray, List.getElem?_cons_succ, List.getElem?_cons_zero]; rfl) (by kernel_rfl) (by kernel_rfl) (by kernel_rfl) (by exact fun _ _ _ h => h) (Or.inl ⟨by rfl, ?_⟩) (by assumption) ?_
                          rotate_left
                          · (intro w hSw; (try dsimp only at hSw); go_simp; skip; with_reducible rfl)
                          try simp only [Act.put, List.setIfInBounds_toArray, List.set_cons_zero, List.set_cons_succ]
                          refine wpAnyH_done (by kernel_rfl) ?_ _
                          refine NoPanic.normal ?_
                          go_wp2_with fail
                          go_ret
                          exact ⟨rfl, V2.out.low 0 rfl⟩
                        exact AllReadyH.nil
                      exact AllReadyH.nil
                    refine AllReadyH.cons (by simp only [List.getElem?_toArray, List.getElem?_cons_succ, List.getElem?_cons_zero]; rfl) (fun KK hKK => ?_) ?_
                    · go_simp
                      refine hKK.out _ _ (by first | (go_keep; done) | (go_split_ands; first | exact ⟨s0, s1, s2, s3, s4, s5, s6, s7, s8, s9, s10, s11, s12, s13⟩ | exact ⟨r0, r1, r2, r3, r4, r5, r6, r7, r8, r9, r10, r11, r12, r13⟩ | exact ⟨p0, p1, p2, p3, p4, p5, p6, p7, p8, p9, p10, p11, p12, p13⟩)) (fun hHeld => ?_)
                      clear hKK KK
                      try simp only [Act.put, List.setIfInBounds_toArray, List.set_cons_zero, List.set_cons_succ]
                      refine wpAnyH_ready (rs := [19]) (by kernel_rfl) (by simp) ?_
                      refine AllReadyH.cons (by simp only [List.getElem?_toArray, List.getElem?_cons_succ, List.getElem?_cons_zero]; rfl) (fun KK hKK => ?_) ?_
                      · go_simp
                        refine hKK.out _ _ (by first | (go_keep; done) | (go_split_ands; first | exact ⟨s0, s1, s2, s3, s4, s5, s6, s7, s8, s9, s10, s11, s12, s13⟩ | exact ⟨r0, r1, r2, r3, r4, r5, r6, r7, r8, r9, r10, r11, r12, r13⟩ | exact ⟨p0, p1, p2, p3, p4, p5, p6, p7, p8, p9, p10, p11, p12, p13⟩)) (fun hHeld => ?_)
                        clear hKK KK
                        try simp only [Act.put, List.setIfInBounds_toArray, List.set_cons_zero, List.set_cons_succ]
                        refine wpAnyH_ready (rs := [21]) (by kernel_rfl) (by simp) ?_
                        refine AllReadyH.cons (by simp only [List.getElem?_toArray, List.getElem?_cons_succ, List.getElem?_cons_zero]; rfl) (fun KK hKK => ?_) ?_
                        · go_simp
                          refine hKK.out _ _ (by first | (go_keep; done) | (go_split_ands; first | exact ⟨s0, s1, s2, s3, s4, s5, s6, s7, s8, s9, s10, s11, s12, s13⟩ | exact ⟨r0, r1, r2, r3, r4, r5, r6, r7, r8, r9, r10, r11, r12, r13⟩ | exact ⟨p0, p1, p2, p3, p4, p5, p6, p7, p8, p9, p10, p11, p12, p13⟩)) (fun hHeld => ?_)
                          clear hKK KK
                          try simp only [Act.put, List.setIfInBounds_toArray, List.set_cons_zero, List.set_cons_succ]
                          refine wpAnyH_take (i := 22) (v := ?_) (by simp only [List.getElem?_toArray, List.getElem?_cons_succ, List.getElem?_cons_zero]; rfl) (by kernel_rfl) (by kernel_rfl) (by kernel_rfl) (by exact fun _ _ _ h => h) (Or.inl ⟨by rfl, ?_⟩) (by assumption) ?_
                          rotate_left
                          · (intro w hSw; (try dsimp only at hSw); go_simp; skip; with_reducible rfl)
                          try simp only [Act.put, List.setIfInBounds_toArray, List.set_cons_zero, List.set_cons_succ]
                          refine wpAnyH_take (i := 23) (v := ?_) (by simp only [List.getElem?_toArray, List.getElem?_cons_succ, List.getElem?_cons_zero]; rfl) (by kernel_rfl) (by kernel_rfl) (by kernel_rfl) (by exact fun _ _ _ h => h) (Or.inl ⟨by rfl, ?_⟩) (by assumption) ?_
                          rotate_left
                          · (intro w hSw; (try dsimp only at hSw); go_simp; skip; with_reducible rfl)
                          try simp only [Act.put, List.setIfInBounds_toArray, List.set_cons_zero, List.set_cons_succ]
                          refine wpAnyH_take (i := 24) (v := ?_) (by simp only [List.getElem?_toArray, List.getElem?_cons_succ, List.getElem?_cons_zero]; rfl) (by kernel_rfl) (by kernel_rfl) (by kernel_rfl) (by exact fun _ _ _ h => h) (Or.inl ⟨by rfl, ?_⟩) (by assumption) ?_
                          rotate_left
                          · (intro w hSw; (try dsimp only at hSw); go_simp; skip; with_reducible rfl)
                          try simp only [Act.put, List.setIfInBounds_toArray, List.set_cons_zero, List.set_cons_succ]
                          refine wpAnyH_done (by kernel_rfl) ?_ _
                          refine NoPanic.normal ?_
                          go_wp2_with fail
                          go_ret
                          exact ⟨rfl, V2.out.low 0 rfl⟩
                        exact AllReadyH.nil
                      exact AllReadyH.nil
                    exact AllReadyH.nil
                  exact AllReadyH.nil
                exact AllReadyH.nil
              exact AllReadyH.nil
            exact AllReadyH.nil
          · have hqq : q2 = q1 := HE.out.resolve_left h0
            have hfz : (fx == 0) = false := beq_eq_false_iff_ne.2 h0
            have SX : Hid (∀ wx zy (Av : Option Addr) (cv : Nat), Fam wx zy ([TL w, TB w.heap.size 25 #[.slice A ni ci, .slice B nf cf, .int .i64 m], TB (w.heap.size + 1) 38 #[.int .i64 sl, .int .i64 hl], TM g1 K q2, TM g2 K q2, TM g3 K q2, TR (.slice Ax n1 cx) n1 q1.ev, TB gx 44 #[.slice Ax n1 cx, .int .i64 fx, .int .i64 q1.kind, .int .i64 q1.val, .int .i64 q1.steps, .int .i64 q1.hp.tk, .int .i64 q1.depth], TR (.slice Ay n2 cy) n2 q2.ev, TB gy 44 #[.slice Ay n2 cy, .int .i64 q2.fin, .int .i64 q2.kind, .int .i64 q2.val, .int .i64 q2.steps, .int .i64 q2.hp.tk, .int .i64 q2.depth], TR (.slice Az n2 cz) n2 q2.ev, TB gz 44 #[.slice Az n2 cz, .int .i64 q2.fin, .int .i64 q2.kind, .int .i64 q2.val, .int .i64 q2.steps, .int .i64 q2.hp.tk, .int .i64 q2.depth], TR (.slice Aw n2 cw) n2 q2.ev, TB gw 44 #[.slice Aw n2 cw, .int .i64 q2.fin, .int .i64 q2.kind, .int .i64 q2.val, .int .i64 q2.steps, .int .i64 q2.hp.tk, .int .i64 q2.depth]] ++ [TR (.slice Av n2 cv) n2 q2.ev]) → Calls Try.prog 23 #[.agg #[.slice Ax n1 cx, .int .i64 fx, .int .i64 q1.kind, .int .i64 q1.val, .int .i64 q1.steps, .int .i64 q1.hp.tk, .int .i64 q1.depth], .agg #[.slice Az n2 cz, .int .i64 q2.fin, .int .i64 q2.kind, .int .i64 q2.val, .int .i64 q2.steps, .int .i64 q2.hp.tk, .int .i64 q2.depth]] wx fun e w' => e = .returned (.bool true) ∧ Fam w' zy ([TL w, TB w.heap.size 25 #[.slice A ni ci, .slice B nf cf, .int .i64 m], TB (w.heap.size + 1) 38 #[.int .i64 sl, .int .i64 hl], TM g1 K q2, TM g2 K q2, TM g3 K q2, TR (.slice Ax n1 cx) n1 q1.ev, TB gx 44 #[.slice Ax n1 cx, .int .i64 fx, .int .i64 q1.kind, .int .i64 q1.val, .int .i64 q1.steps, .int .i64 q1.hp.tk, .int .i64 q1.depth], TR (.slice Ay n2 cy) n2 q2.ev, TB gy 44 #[.slice Ay n2 cy, .int .i64 q2.fin, .int .i64 q2.kind, .int .i64 q2.val, .int .i64 q2.steps, .int .i64 q2.hp.tk, .int .i64 q2.depth], TR (.slice Az n2 cz) n2 q2.ev, TB gz 44 #[.slice Az n2 cz, .int .i64 q2.fin, .int .i64 q2.kind, .int .i64 q2.val, .int .i64 q2.steps, .int .i64 q2.hp.tk, .int .i64 q2.depth], TR (.slice Aw n2 cw) n2 q2.ev, TB gw 44 #[.slice Aw n2 cw, .int .i64 q2.fin, .int .i64 q2.kind, .int .i64 q2.val, .int .i64 q2.steps, .int .i64 q2.hp.tk, .int .i64 q2.depth]] ++ [TR (.slice Av n2 cv) n2 q2.ev])) := fun wx zy Av cv h => by
              have hn : n1 = n2 := by rw [← HN1.out, ← HN2.out, hqq]
              have hf2 : q2.fin = fx := by rw [hqq]; exact HFX.out
              have hc := h.same 6 10 (n := n2) (A := Ax) (c := cx) (A' := Az) (c' := cz) (xs := q2.ev) HN2.out hn20 (by rw [hqq, hn]; rfl) (by rfl) fx q2.kind q2.val q2.steps q2.hp.tk q2.depth
              rw [hn, hf2, ← hqq]
              rw [hn, hf2, ← hqq] at hc
              exact hc
            clear hqq HE HFX
            refine wp_region_noPanic ?_
            refine wp_region_held_drew (S := (fun w' => w'.cell? ⟨gx, 0, none⟩ = some (.slice Ax n1 cx) ∧ w'.cell? ⟨gx, 1, none⟩ = some (.int .i64 fx) ∧ w'.cell? ⟨gx, 2, none⟩ = some (.int .i64 q1.kind) ∧ w'.cell? ⟨gx, 3, none⟩ = some (.int .i64 q1.val) ∧ w'.cell? ⟨gx, 4, none⟩ = some (.int .i64 q1.steps) ∧ w'.cell? ⟨gx, 5, none⟩ = some (.int .i64 q1.hp.tk) ∧ w'.cell? ⟨gx, 6, none⟩ = some (.int .i64 q1.depth) ∧ w'.cell? ⟨gz, 0, none⟩ = some (.slice Az n2 cz) ∧ w'.cell? ⟨gz, 1, none⟩ = some (.int .i64 q2.fin) ∧ w'.cell? ⟨gz, 2, none⟩ = some (.int .i64 q2.kind) ∧ w'.cell? ⟨gz, 3, none⟩ = some (.int .i64 q2.val) ∧ w'.cell? ⟨gz, 4, none⟩ = some (.int .i64 q2.steps) ∧ w'.cell? ⟨gz, 5, none⟩ = some (.int .i64 q2.hp.tk) ∧ w'.cell? ⟨gz, 6, none⟩ = some (.int .i64 q2.depth))) (by kernel_rfl) (by first | (go_keep; done) | (go_split_ands; first | exact ⟨t0, t1, t2, t3, t4, t5, t6, t7, t8, t9, t10, t11, t12, t13⟩ | exact ⟨s0, s1, s2, s3, s4, s5, s6, s7, s8, s9, s10, s11, s12, s13⟩ | exact ⟨r0, r1, r2, r3, r4, r5, r6, r7, r8, r9, r10, r11, r12, r13⟩ | exact ⟨p0, p1, p2, p3, p4, p5, p6, p7, p8, p9, p10, p11, p12, p13⟩)) (fun hHeld => ?_)
            refine wpAnyH_take (i := 0) (v := ?_) (by simp only [List.getElem?_toArray, List.getElem?_cons_succ, List.getElem?_cons_zero]; rfl) (by kernel_rfl) (by kernel_rfl) (by kernel_rfl) (by exact fun _ _ _ h => h) (Or.inl ⟨by rfl, ?_⟩) (by assumption) ?_
            rotate_left
            · (intro w hSw; (try dsimp only at hSw); go_simp; skip; with_reducible rfl)
            try simp only [Act.put, List.setIfInBounds_toArray, List.set_cons_zero, List.set_cons_succ]
            refine wpAnyH_ready (rs := [1]) (by kernel_rfl) (by simp) ?_
            refine AllReadyH.cons (by simp only [List.getElem?_toArray, List.getElem?_cons_succ, List.getElem?_cons_zero]; rfl) (fun KK hKK => ?_) ?_
            · go_simp
              go_at_call 18
              refine (num_c _ _).mono ?_
              rintro e w9 ⟨rfl, hw9⟩
              subst hw9
              go_wp2_with fail
              refine hKK.out _ _ (by first | (go_keep; done) | (go_split_ands; first | exact ⟨t0, t1, t2, t3, t4, t5, t6, t7, t8, t9, t10, t11, t12, t13⟩ | exact ⟨s0, s1, s2, s3, s4, s5, s6, s7, s8, s9, s10, s11, s12, s13⟩ | exact ⟨r0, r1, r2, r3, r4, r5, r6, r7, r8, r9, r10, r11, r12, r13⟩ | exact ⟨p0, p1, p2, p3, p4, p5, p6, p7, p8, p9, p10, p11, p12, p13⟩)) (fun hHeld => ?_)
              clear hKK KK
              try simp only [Act.put, List.setIfInBounds_toArray, List.set_cons_zero, List.set_cons_succ]
              refine wpAnyH_take (i := 2) (v := ?_) (by simp only [List.getElem?_toArray, List.getElem?_cons_succ, List.getElem?_cons_zero]; rfl) (by kernel_rfl) (by kernel_rfl) (by kernel_rfl) (by exact fun _ _ _ h => h) (Or.inl ⟨by rfl, ?_⟩) (by assumption) ?_
              rotate_left
              · (intro w hSw; (try dsimp only at hSw); go_simp; skip; with_reducible rfl)
              try simp only [Act.put, List.setIfInBounds_toArray, List.set_cons_zero, List.set_cons_succ]
              refine wpAnyH_take (i := 3) (v := ?_) (by simp only [List.getElem?_toArray, List.getElem?_cons_succ, List.getElem?_cons_zero]; rfl) (by kernel_rfl) (by kernel_rfl) (by kernel_rfl) (by exact fun _ _ _ h => h) (Or.inl ⟨by rfl, ?_⟩) (by assumption) ?_
              rotate_left
              · (intro w hSw; (try dsimp only at hSw); go_simp; skip; with_reducible rfl)
              try simp only [Act.put, List.setIfInBounds_toArray, List.set_cons_zero, List.set_cons_succ]
              refine wpAnyH_take (i := 4) (v := ?_) (by simp only [List.getElem?_toArray, List.getElem?_cons_succ, List.getElem?_cons_zero]; rfl) (by kernel_rfl) (by kernel_rfl) (by kernel_rfl) (by exact fun _ _ _ h => h) (Or.inl ⟨by rfl, ?_⟩) (by assumption) ?_
              rotate_left
              · (intro w hSw; (try dsimp only at hSw); go_simp; skip; with_reducible rfl)
              try simp only [Act.put, List.setIfInBounds_toArray, List.set_cons_zero, List.set_cons_succ]
              refine wpAnyH_ready (rs := [5]) (by kernel_rfl) (by simp) ?_
              refine AllReadyH.cons (by simp only [List.getElem?_toArray, List.getElem?_cons_succ, List.getElem?_cons_zero]; rfl) (fun KK hKK => ?_) ?_
              · go_simp
                go_at_call 18
                refine (num_c _ _).mono ?_
                rintro e w9 ⟨rfl, hw9⟩
                subst hw9
                go_wp2_with fail
                refine hKK.out _ _ (by first | (go_keep; done) | (go_split_ands; first | exact ⟨t0, t1, t2, t3, t4, t5, t6, t7, t8, t9, t10, t11, t12, t13⟩ | exact ⟨s0, s1, s2, s3, s4, s5, s6, s7, s8, s9, s10, s11, s12, s13⟩ | exact ⟨r0, r1, r2, r3, r4, r5, r6, r7, r8, r9, r10, r11, r12, r13⟩ | exact ⟨p0, p1, p2, p3, p4, p5, p6, p7, p8, p9, p10, p11, p12, p13⟩)) (fun hHeld => ?_)
                clear hKK KK
                try simp only [Act.put, List.setIfInBounds_toArray, List.set_cons_zero, List.set_cons_succ]
                refine wpAnyH_take (i := 6) (v := ?_) (by simp only [List.getElem?_toArray, List.getElem?_cons_succ, List.getElem?_cons_zero]; rfl) (by kernel_rfl) (by kernel_rfl) (by kernel_rfl) (by exact fun _ _ _ h => h) (Or.inl ⟨by rfl, ?_⟩) (by assumption) ?_
                rotate_left
                · (intro w hSw; (try dsimp only at hSw); go_simp; skip; with_reducible rfl)
                try simp only [Act.put, List.setIfInBounds_toArray, List.set_cons_zero, List.set_cons_succ]
                refine wpAnyH_take (i := 7) (v := ?_) (by simp only [List.getElem?_toArray, List.getElem?_cons_succ, List.getElem?_cons_zero]; rfl) (by kernel_rfl) (by kernel_rfl) (by kernel_rfl) (by exact fun _ _ _ h => h) (Or.inl ⟨by rfl, ?_⟩) (by assumption) ?_
                rotate_left
                · (intro w hSw; (try dsimp only at hSw); go_simp; skip; with_reducible rfl)
                try simp only [Act.put, List.setIfInBounds_toArray, List.set_cons_zero, List.set_cons_succ]
                refine wpAnyH_take (i := 8) (v := ?_) (by simp only [List.getElem?_toArray, List.getElem?_cons_succ, List.getElem?_cons_zero]; rfl) (by kernel_rfl) (by kernel_rfl) (by kernel_rfl) (by exact fun _ _ _ h => h) (Or.inl ⟨by rfl, ?_⟩) (by assumption) ?_
                rotate_left
                · (intro w hSw; (try dsimp only at hSw); go_simp; skip; with_reducible rfl)
                try simp only [Act.put, List.setIfInBounds_toArray, List.set_cons_zero, List.set_cons_succ]
                refine wpAnyH_take (i := 9) (v := ?_) (by simp only [List.getElem?_toArray, List.getElem?_cons_succ, List.getElem?_cons_zero]; rfl) (by kernel_rfl) (by kernel_rfl) (by kernel_rfl) (by exact fun _ _ _ h => h) (Or.inl ⟨by rfl, ?_⟩) (by assumption) ?_
                rotate_left
                · (intro w hSw; (try dsimp only at hSw); go_simp; skip; with_reducible rfl)
                try simp only [Act.put, List.setIfInBounds_toArray, List.set_cons_zero, List.set_cons_succ]
                refine wpAnyH_take (i := 11) (v := ?_) (by simp only [List.getElem?_toArray, List.getElem?_cons_succ, List.getElem?_cons_zero]; rfl) (by kernel_rfl) (by kernel_rfl) (by kernel_rfl) (by exact fun _ _ _ h => h) (Or.inl ⟨by rfl, ?_⟩) (by assumption) ?_
                rotate_left
                · (intro w hSw; (try dsimp only at hSw); go_simp; skip; with_reducible rfl)
                try simp only [Act.put, List.setIfInBounds_toArray, List.set_cons_zero, List.set_cons_succ]
                refine wpAnyH_ready (rs := [10]) (by kernel_rfl) (by simp) ?_
                refine AllReadyH.cons (by simp only [List.getElem?_toArray, List.getElem?_cons_succ, List.getElem?_cons_zero]; rfl) (fun KK hKK => ?_) ?_
                · go_simp
                  go_at_call 22
                  refine OC.out.mono ?_
                  rintro e wj ⟨Av, cv, zj, rfl, fj⟩
                  have V1 := Lib.hid fj
                  have r0 : wj.cell? ⟨gx, 0, none⟩ = some (.slice Ax n1 cx) := (V1.out.cells 7 rfl).cell 0
                  have r1 : wj.cell? ⟨gx, 1, none⟩ = some (.int .i64 fx) := (V1.out.cells 7 rfl).cell 1
                  have r2 : wj.cell? ⟨gx, 2, none⟩ = some (.int .i64 q1.kind) := (V1.out.cells 7 rfl).cell 2
                  have r3 : wj.cell? ⟨gx, 3, none⟩ = some (.int .i64 q1.val) := (V1.out.cells 7 rfl).cell 3
                  have r4 : wj.cell? ⟨gx, 4, none⟩ = some (.int .i64 q1.steps) := (V1.out.cells 7 rfl).cell 4
                  have r5 : wj.cell? ⟨gx, 5, none⟩ = some (.int .i64 q1.hp.tk) := (V1.out.cells 7 rfl).cell 5
                  have r6 : wj.cell? ⟨gx, 6, none⟩ = some (.int .i64 q1.depth) := (V1.out.cells 7 rfl).cell 6
                  have r7 : wj.cell? ⟨gz, 0, none⟩ = some (.slice Az n2 cz) := (V1.out.cells 11 rfl).cell 0
                  have r8 : wj.cell? ⟨gz, 1, none⟩ = some (.int .i64 q2.fin) := (V1.out.cells 11 rfl).cell 1
                  have r9 : wj.cell? ⟨gz, 2, none⟩ = some (.int .i64 q2.kind) := (V1.out.cells 11 rfl).cell 2
                  have r10 : wj.cell? ⟨gz, 3, none⟩ = some (.int .i64 q2.val) := (V1.out.cells 11 rfl).cell 3
                  have r11 : wj.cell? ⟨gz, 4, none⟩ = some (.int .i64 q2.steps) := (V1.out.cells 11 rfl).cell 4
                  have r12 : wj.cell? ⟨gz, 5, none⟩ = some (.int .i64 q2.hp.tk) := (V1.out.cells 11 rfl).cell 5
                  have r13 : wj.cell? ⟨gz, 6, none⟩ = some (.int .i64 q2.depth) := (V1.out.cells 11 rfl).cell 6
                  clear fj
                  go_wp2_with fail
                  refine hKK.out _ _ (by first | (go_keep; done) | (go_split_ands; first | exact ⟨t0, t1, t2, t3, t4, t5, t6, t7, t8, t9, t10, t11, t12, t13⟩ | exact ⟨s0, s1, s2, s3, s4, s5, s6, s7, s8, s9, s10, s11, s12, s13⟩ | exact ⟨r0, r1, r2, r3, r4, r5, r6, r7, r8, r9, r10, r11, r12, r13⟩ | exact ⟨p0, p1, p2, p3, p4, p5, p6, p7, p8, p9, p10, p11, p12, p13⟩)) (fun hHeld => ?_)
                  clear hKK KK
                  try simp only [Act.put, List.setIfInBounds_toArray, List.set_cons_zero, List.set_cons_succ]
                  refine wpAnyH_ready (rs := [12]) (by kernel_rfl) (by simp) ?_
                  refine AllReadyH.cons (by simp only [List.getElem?_toArray, List.getElem?_cons_succ, List.getElem?_cons_zero]; rfl) (fun KK hKK => ?_) ?_
                  · go_simp
                    go_at_call 23
                    refine (SV.out _ _ _ _ V1.out).mono ?_
                    rintro e wk ⟨rfl, fk⟩
                    have V2 := Lib.hid fk
                    have s0 : wk.cell? ⟨gx, 0, none⟩ = some (.slice Ax n1 cx) := (V2.out.cells 7 rfl).cell 0
                    have s1 : wk.cell? ⟨gx, 1, none⟩ = some (.int .i64 fx) := (V2.out.cells 7 rfl).cell 1
                    have s2 : wk.cell? ⟨gx, 2, none⟩ = some (.int .i64 q1.kind) := (V2.out.cells 7 rfl).cell 2
                    have s3 : wk.cell? ⟨gx, 3, none⟩ = some (.int .i64 q1.val) := (V2.out.cells 7 rfl).cell 3
                    have s4 : wk.cell? ⟨gx, 4, none⟩ = some (.int .i64 q1.steps) := (V2.out.cells 7 rfl).cell 4
                    have s5 : wk.cell? ⟨gx, 5, none⟩ = some (.int .i64 q1.hp.tk) := (V2.out.cells 7 rfl).cell 5
                    have s6 : wk.cell? ⟨gx, 6, none⟩ = some (.int .i64 q1.depth) := (V2.out.cells 7 rfl).cell 6
                    have s7 : wk.cell? ⟨gz, 0, none⟩ = some (.slice Az n2 cz) := (V2.out.cells 11 rfl).cell 0
                    have s8 : wk.cell? ⟨gz, 1, none⟩ = some (.int .i64 q2.fin) := (V2.out.cells 11 rfl).cell 1
                    have s9 : wk.cell? ⟨gz, 2, none⟩ = some (.int .i64 q2.kind) := (V2.out.cells 11 rfl).cell 2
                    have s10 : wk.cell? ⟨gz, 3, none⟩ = some (.int .i64 q2.val) := (V2.out.cells 11 rfl).cell 3
                    have s11 : wk.cell? ⟨gz, 4, none⟩ = some (.int .i64 q2.steps) := (V2.out.cells 11 rfl).cell 4
                    have s12 : wk.cell? ⟨gz, 5, none⟩ = some (.int .i64 q2.hp.tk) := (V2.out.cells 11 rfl).cell 5
                    have s13 : wk.cell? ⟨gz, 6, none⟩ = some (.int .i64 q2.depth) := (V2.out.cells 11 rfl).cell 6
                    clear fk
                    go_wp2_with fail
                    refine hKK.out _ _ (by first | (go_keep; done) | (go_split_ands; first | exact ⟨t0, t1, t2, t3, t4, t5, t6, t7, t8, t9, t10, t11, t12, t13⟩ | exact ⟨s0, s1, s2, s3, s4, s5, s6, s7, s8, s9, s10, s11, s12, s13⟩ | exact ⟨r0, r1, r2, r3, r4, r5, r6, r7, r8, r9, r10, r11, r12, r13⟩ | exact ⟨p0, p1, p2, p3, p4, p5, p6, p7, p8, p9, p10, p11, p12, p13⟩)) (fun hHeld => ?_)
                    clear hKK KK
                    try simp only [Act.put, List.setIfInBounds_toArray, List.set_cons_zero, List.set_cons_succ]
                    refine wpAnyH_take (i := 13) (v := ?_) (by simp only [List.getElem?_toArray, List.getElem?_cons_succ, List.getElem?_cons_zero]; rfl) (by kernel_rfl) (by kernel_rfl) (by kernel_rfl) (by exact fun _ _ _ h => h) (Or.inl ⟨by rfl, ?_⟩) (by assumption) ?_
                    rotate_left
                    · (intro w hSw; (try dsimp only at hSw); go_simp; skip; with_reducible rfl)
                    try simp only [Act.put, List.setIfInBounds_toArray, List.set_cons_zero, List.set_cons_succ]
                    refine wpAnyH_take (i := 14) (v := ?_) (by simp only [List.getElem?_toArray, List.getElem?_cons_succ, List.getElem?_cons_zero]; rfl) (by kernel_rfl) (by kernel_rfl) (by kernel_rfl) (by exact fun _ _ _ h => h) (Or.inl ⟨by rfl, ?_⟩) (by assumption) ?_
                    rotate_left
                    · (intro w hSw; (try dsimp only at hSw); go_simp; skip; with_reducible rfl)
                    try simp only [Act.put, List.setIfInBounds_toArray, List.set_cons_zero, List.set_cons_succ]
                    refine wpAnyH_take (i := 15) (v := ?_) (by simp only [List.getElem?_toArray, List.getElem?_cons_succ, List.getElem?_cons_zero]; rfl) (by kernel_rfl) (by kernel_rfl) (by kernel_rfl) (by exact fun _ _ _ h => h) (Or.inl ⟨by rfl, ?_⟩) (by assumption) ?_
                    rotate_left
                    · (intro w hSw; (try dsimp only at hSw); go_simp; skip; with_reducible rfl)
                    try simp only [Act.put, List.setIfInBounds_toArray, List.set_cons_zero, List.set_cons_succ]
                    refine wpAnyH_take (i := 16) (v := ?_) (by simp only [List.getElem?_toArray, List.getElem?_cons_succ, List.getElem?_cons_zero]; rfl) (by kernel_rfl) (by kernel_rfl) (by kernel_rfl) (by exact fun _ _ _ h => h) (Or.inl ⟨by rfl, ?_⟩) (by assumption) ?_
                    rotate_left
                    · (intro w hSw; (try dsimp only at hSw); go_simp; skip; with_reducible rfl)
                    try simp only [Act.put, List.setIfInBounds_toArray, List.set_cons_zero, List.set_cons_succ]
                    refine wpAnyH_take (i := 17) (v := ?_) (by simp only [List.getElem?_toArray, List.getElem?_cons_succ, List.getElem?_cons_zero]; rfl) (by kernel_rfl) (by kernel_rfl) (by kernel_rfl) (by exact fun _ _ _ h => h) (Or.inl ⟨by rfl, ?_⟩) (by assumption) ?_
                    rotate_left
                    · (intro w hSw; (try dsimp only at hSw); go_simp; skip; with_reducible rfl)
                    try simp only [Act.put, List.setIfInBounds_toArray, List.set_cons_zero, List.set_cons_succ]
                    refine wpAnyH_take (i := 18) (v := ?_) (by simp only [List.getElem?_toArray, List.getElem?_cons_succ, List.getElem?_cons_zero]; rfl) (by kernel_rfl) (by kernel_rfl) (by kernel_rfl) (by exact fun _ _ _ h => h) (Or.inl ⟨by rfl, ?_⟩) (by assumption) ?_
                    rotate_left
                    · (intro w hSw; (try dsimp only at hSw); go_simp; skip; with_reducible rfl)
                    try simp only [Act.put, List.setIfInBounds_toArray, List.set_cons_zero, List.set_cons_succ]
                    refine wpAnyH_take (i := 19) (v := ?_) (by simp only [List.getElem?_toArray, List.getElem?_cons_succ, List.getElem?_cons_zero]; rfl) (by kernel_rfl) (by kernel_rfl) (by kernel_rfl) (by exact fun _ _ _ h => h) (Or.inl ⟨by rfl, ?_⟩) (by assumption) ?_
                    rotate_left
                    · (intro w hSw; (try dsimp only at hSw); go_simp; skip; with_reducible rfl)
                    try simp only [Act.put, List.setIfInBounds_toArray, List.set_cons_zero, List.set_cons_succ]
                    refine wpAnyH_take (i := 20) (v := ?_) (by simp only [List.getElem?_toArray, List.getElem?_cons_succ, List.getElem?_cons_zero]; rfl) (by kernel_rfl) (by kernel_rfl) (by kernel_rfl) (by exact fun _ _ _ h => h) (Or.inl ⟨by rfl, ?_⟩) (by assumption) ?_
                    rotate_left
                    · (intro w hSw; (try dsimp only at hSw); go_simp; skip; with_reducible rfl)
                    try simp only [Act.put, List.setIfInBounds_toArray, List.set_cons_zero, List.set_cons_succ]
                    refine wpAnyH_ready (rs := [21]) (by kernel_rfl) (by simp) ?_
                    refine AllReadyH.cons (by simp only [List.getElem?_toArray, List.getElem?_cons_succ, List.getElem?_cons_zero]; rfl) (fun KK hKK => ?_) ?_
                    · go_simp
                      go_at_call 23
                      refine (SX.out _ _ _ _ V2.out).mono ?_
                      rintro e wl ⟨rfl, fl⟩
                      have V3 := Lib.hid fl
                      have t0 : wl.cell? ⟨gx, 0, none⟩ = some (.slice Ax n1 cx) := (V3.out.cells 7 rfl).cell 0
                      have t1 : wl.cell? ⟨gx, 1, none⟩ = some (.int .i64 fx) := (V3.out.cells 7 rfl).cell 1
                      have t2 : wl.cell? ⟨gx, 2, none⟩ = some (.int .i64 q1.kind) := (V3.out.cells 7 rfl).cell 2
                      have t3 : wl.cell? ⟨gx, 3, none⟩ = some (.int .i64 q1.val) := (V3.out.cells 7 rfl).cell 3
                      have t4 : wl.cell? ⟨gx, 4, none⟩ = some (.int .i64 q1.steps) := (V3.out.cells 7 rfl).cell 4
                      have t5 : wl.cell? ⟨gx, 5, none⟩ = some (.int .i64 q1.hp.tk) := (V3.out.cells 7 rfl).cell 5
                      have t6 : wl.cell? ⟨gx, 6, none⟩ = some (.int .i64 q1.depth) := (V3.out.cells 7 rfl).cell 6
                      have t7 : wl.cell? ⟨gz, 0, none⟩ = some (.slice Az n2 cz) := (V3.out.cells 11 rfl).cell 0
                      have t8 : wl.cell? ⟨gz, 1, none⟩ = some (.int .i64 q2.fin) := (V3.out.cells 11 rfl).cell 1
                      have t9 : wl.cell? ⟨gz, 2, none⟩ = some (.int .i64 q2.kind) := (V3.out.cells 11 rfl).cell 2
                      have t10 : wl.cell? ⟨gz, 3, none⟩ = some (.int .i64 q2.val) := (V3.out.cells 11 rfl).cell 3
                      have t11 : wl.cell? ⟨gz, 4, none⟩ = some (.int .i64 q2.steps) := (V3.out.cells 11 rfl).cell 4
                      have t12 : wl.cell? ⟨gz, 5, none⟩ = some (.int .i64 q2.hp.tk) := (V3.out.cells 11 rfl).cell 5
                      have t13 : wl.cell? ⟨gz, 6, none⟩ = some (.int .i64 q2.depth) := (V3.out.cells 11 rfl).cell 6
                      clear fl
                      go_wp2_with fail
                      refine hKK.out _ _ (by first | (go_keep; done) | (go_split_ands; first | exact ⟨t0, t1, t2, t3, t4, t5, t6, t7, t8, t9, t10, t11, t12, t13⟩ | exact ⟨s0, s1, s2, s3, s4, s5, s6, s7, s8, s9, s10, s11, s12, s13⟩ | exact ⟨r0, r1, r2, r3, r4, r5, r6, r7, r8, r9, r10, r11, r12, r13⟩ | exact ⟨p0, p1, p2, p3, p4, p5, p6, p7, p8, p9, p10, p11, p12, p13⟩)) (fun hHeld => ?_)
                      clear hKK KK
                      try simp only [Act.put, List.setIfInBounds_toArray, List.set_cons_zero, List.set_cons_succ]
                      refine wpAnyH_take (i := 22) (v := ?_) (by simp only [List.getElem?_toArray, List.getElem?_cons_succ, List.getElem?_cons_zero]; rfl) (by kernel_rfl) (by kernel_rfl) (by kernel_rfl) (by exact fun _ _ _ h => h) (Or.inl ⟨by rfl, ?_⟩) (by assumption) ?_
                      rotate_left
                      · (intro w hSw; (try dsimp only at hSw); go_simp; skip; with_reducible rfl)
                      try simp only [Act.put, List.setIfInBounds_toArray, List.set_cons_zero, List.set_cons_succ]
                      refine wpAnyH_take (i := 23) (v := ?_) (by simp only [List.getElem?_toArray, List.getElem?_cons_succ, List.getElem?_cons_zero]; rfl) (by kernel_rfl) (by kernel_rfl) (by kernel_rfl) (by exact fun _ _ _ h => h) (Or.inl ⟨by rfl, ?_⟩) (by assumption) ?_
                      rotate_left
                      · (intro w hSw; (try dsimp only at hSw); go_simp; skip; with_reducible rfl)
                      try simp only [Act.put, List.setIfInBounds_toArray, List.set_cons_zero, List.set_cons_succ]
                      refine wpAnyH_take (i := 24) (v := ?_) (by simp only [List.getElem?_toArray, List.getElem?_cons_succ, List.getElem?_cons_zero]; rfl) (by kernel_rfl) (by kernel_rfl) (by kernel_rfl) (by exact fun _ _ _ h => h) (Or.inl ⟨by rfl, ?_⟩) (by assumption) ?_
                      rotate_left
                      · (intro w hSw; (try dsimp only at hSw); go_simp; skip; with_reducible rfl)
                      try simp only [Act.put, List.setIfInBounds_toArray, List.set_cons_zero, List.set_cons_succ]
                      refine wpAnyH_done (by kernel_rfl) ?_ _
                      refine NoPanic.normal ?_
                      go_wp2_with fail
                      go_ret
                      exact ⟨rfl, V3.out.low 0 rfl⟩
                    exact AllReadyH.nil
                  exact AllReadyH.nil
                exact AllReadyH.nil
              exact AllReadyH.nil
            exact AllReadyH.nil
theorem r16split_c (w : World) (A : Option Addr) (ni ci : Nat) (X : Nat → Ins) (B : Option Addr) (nf cf : Nat) (Fs : Nat → Fn) (m : Int) (hc : ni ≤ ci ∧ (A = none → ci = 0)) (hd : nf ≤ cf ∧ (B = none → cf = 0)) (hm : i64in m) (hi : IL w (fun b => b < w.heap.size) A ni X) (hf : FL w (fun b => b < w.heap.size) B nf Fs) (NA : Option Addr) (n nc : Nat) (xs : List Int) (hx : xs.length = n) (hN : NL w (fun b => b < w.heap.size) NA xs) (hxw : ∀ x ∈ xs, i64in x) (hNA : NA = none → nc = 0) (sl hl a0 b0 : Int) (h1 : ni ≤ 140737488351232) (h2 : n ≤ 140737488351232) :
    Calls Try.prog 4 #[codeV A ni ci B nf cf m, .slice NA n nc, .agg #[.int .i64 sl, .int .i64 hl], .int .i64 a0, .int .i64 b0] w fun e w' => e = .returned (.bool true) ∧ Below w.heap.size w w' := by
  obtain ⟨o0, o1⟩ := and_rng a0 16383 (by decide)
  obtain ⟨p0, p1⟩ := and_rng b0 16383 (by decide)
  rw [show ((16383 : Nat) : Int) = 16383 from rfl] at o0 o1 p0 p1
  obtain ⟨a, ha⟩ := Int.eq_ofNat_of_zero_le o0
  obtain ⟨b, hb⟩ := Int.eq_ofNat_of_zero_le p0
  exact split_c w A ni ci X B nf cf Fs m hc.1 hm hi hf hc.2 hd.2 NA n nc xs hx hN hxw hNA sl hl a0 b0 (by omega) a b ha hb (by omega) (by omega)
end Go.Proofs.Ytkjfbojmkkdgoaa
