/- R16Grows: the walk. -/
import Derived.Test.YtkjfbojmkkdgoaaF2
import Derived.Test.YtkjfbojmkkdgoaaY4
import Derived.Test.YtkjfbojmkkdgoaaAp
import Derived.Deep.DeepCutAuto
set_option linter.unusedVariables false
set_option linter.unusedSimpArgs false
namespace Go.Proofs.Ytkjfbojmkkdgoaa
open Go.RowKit
attribute [local go_sem ↓] Go.wp_at_zero Go.wp_at_succ
theorem grow_new {K K' : MK} (m : More K K') (hm : K'.mn = K.mn) (n : Nat) (xs : List Int) : runN K' n (newQ K' xs) = runN K n (newQ K xs) ∨ ((runN K n (newQ K xs)).fin = 2 ∧ ((runN K n (newQ K xs)).kind = 7 ∨ (runN K n (newQ K xs)).kind = 8) ∧ (runN K n (newQ K xs)).ev.length ≤ (runN K' n (newQ K' xs)).ev.length ∧ (runN K n (newQ K xs)).steps ≤ (runN K' n (newQ K' xs)).steps) := by
  by_cases h : K.sl < (K.Fs K.mn.toNat).frame
  · have e : newQ K xs = (q00 xs).fins 2 7 0 := if_pos h
    have r : runN K n ((q00 xs).fins 2 7 0) = (q00 xs).fins 2 7 0 := runN_rest _ _ rfl n
    rw [e, r]
    refine .inr ⟨rfl, .inl rfl, Nat.zero_le _, ?_⟩
    rw [runN_steps, newQ_steps]
    show (0 : Int) ≤ _
    omega
  · have e : newQ K xs = (q00 xs).begin K K.mn.toNat 0 (-1) (-1) := if_neg h
    have e' : newQ K' xs = (q00 xs).begin K' K'.mn.toNat 0 (-1) (-1) := if_neg (by rw [m.f, hm]; have := m.s; omega)
    rw [e', begin_more m, hm, ← e]
    exact run_more m n _
set_option maxRecDepth 100000 in
set_option maxHeartbeats 16000000 in
theorem grows_c (w : World) (A : Option Addr) (ni ci : Nat) (X : Nat → Ins) (B : Option Addr) (nf cf : Nat) (Fs : Nat → Fn) (m : Int) (hci : ni ≤ ci) (hm : i64in m) (hi : IL w (fun b => b < w.heap.size) A ni X) (hf : FL w (fun b => b < w.heap.size) B nf Fs) (hA : A = none → ci = 0) (hB : B = none → cf = 0) (NA : Option Addr) (n nc : Nat) (xs : List Int) (hx : xs.length = n) (hN : NL w (fun b => b < w.heap.size) NA xs) (hxw : ∀ x ∈ xs, i64in x) (hNA : NA = none → nc = 0) (sl hl ms mh f0 : Int) (hbig : (ni : Int) + (n : Int) ≤ 9223372036854775807) (a : Nat) (ha : bits .and .i64 f0 32767 = (a : Int)) (ha1 : a ≤ 32767) (us uh : Int) (hus : bits .and .i64 ms 1048575 = us) (huh : bits .and .i64 mh 1048575 = uh) (us0 : 0 ≤ us) (us1 : us ≤ 1048575) (uh0 : 0 ≤ uh) (uh1 : uh ≤ 1048575) :
    Calls Try.prog 5 #[codeV A ni ci B nf cf m, .slice NA n nc, .agg #[.int .i64 sl, .int .i64 hl], .agg #[.int .i64 ms, .int .i64 mh], .int .i64 f0] w fun e w' => e = .returned (.bool true) ∧ Below w.heap.size w w' := by
  obtain ⟨z0, S0⟩ : ∃ z0, Hid (Fam (((w.alloc (.cells #[.slice A ni ci, .slice B nf cf, .int .i64 m] 25)).alloc (.cells #[.int .i64 sl, .int .i64 hl] 38)).alloc (.cells #[.int .i64 ms, .int .i64 mh] 38)) z0 [TL w, TB w.heap.size 25 #[.slice A ni ci, .slice B nf cf, .int .i64 m], TB (w.heap.size + 1) 38 #[.int .i64 sl, .int .i64 hl], TB (w.heap.size + 2) 38 #[.int .i64 ms, .int .i64 mh]]) := by
    obtain ⟨z1, h1⟩ := (Fam.start w).blk #[.slice A ni ci, .slice B nf cf, .int .i64 m] 25
    obtain ⟨z2, h2⟩ := h1.blk #[.int .i64 sl, .int .i64 hl] 38
    obtain ⟨z3, h3⟩ := h2.blk #[.int .i64 ms, .int .i64 mh] 38
    rw [show (w.alloc (.cells #[.slice A ni ci, .slice B nf cf, .int .i64 m] 25)).heap.size = w.heap.size + 1 by simp, show ((w.alloc (.cells #[.slice A ni ci, .slice B nf cf, .int .i64 m] 25)).alloc (.cells #[.int .i64 sl, .int .i64 hl] 38)).heap.size = w.heap.size + 2 by simp] at h3
    exact ⟨z3, h3⟩
  have HI := Lib.hid hi
  have HF := Lib.hid hf
  have HN := Lib.hid hN
  have HXW := Lib.hid hxw
  have HX := Lib.hid hx
  clear hi hf hN hxw hx
  unfold codeV
  go_enter Try.func5, Try.ntmps5
  go_upto_region 1 with fail
  generalize World.alloc (World.alloc (World.alloc w _) _) _ = w0 at *
  have y0 := (S0.out.cells 1 rfl).cell 0
  have y1 := (S0.out.cells 1 rfl).cell 1
  have y2 := (S0.out.cells 1 rfl).cell 2
  have v0 := (S0.out.cells 2 rfl).cell 0
  have v1 := (S0.out.cells 2 rfl).cell 1
  simp only [List.getElem?_toArray, List.getElem?_cons_zero, List.getElem?_cons_succ] at y0 y1 y2 v0 v1
  have FLW := Lib.hid (HF.out.tr (F := fun b => w.heap.size ≤ b) (G' := fun _ => True) ⟨(S0.out.low 0 rfl).os, (S0.out.low 0 rfl).tape, (S0.out.low 0 rfl).output, (S0.out.low 0 rfl).size, fun k _ h => (S0.out.low 0 rfl).block k (by omega)⟩ fun b hb _ => ⟨by omega, trivial⟩)
  have FC := Lib.hid (fits_c w0 _ A ni ci B nf cf Fs m FLW.out NA n nc hbig)
  go_wp2_with fail
  refine FC.out.mono ?_
  rintro e w1 ⟨r, rfl, hr, b1⟩
  have S1 := Lib.hid (S0.out.quiet (Only.ofBelow b1))
  clear S0 FC b1 y0 y1 y2 v0 v1 FLW
  cases r with
  | false =>
    go_wp2_with fail
    go_ret
    exact ⟨rfl, S1.out.low 0 rfl⟩
  | true =>
    obtain ⟨h1, h2⟩ := hr rfl
    clear hr
    have CA0 : Hid (CA w (fun b => b < w.heap.size) A ni ci X B nf cf Fs m NA xs nc) := ⟨HI.out, hci, HF.out, hm, by omega, HN.out, hA, hB, hNA, HXW.out, by omega⟩
    clear HI HF HN HXW hA hB hNA hm
    go_wp2_with fail
    refine (alive_c w1).mono ?_
    rintro e w2 ⟨rfl, b2⟩
    have S2 := Lib.hid (S1.out.quiet (Only.ofBelow b2))
    clear S1 b2
    have y0 := (S2.out.cells 1 rfl).cell 0
    have y1 := (S2.out.cells 1 rfl).cell 1
    have y2 := (S2.out.cells 1 rfl).cell 2
    have v0 := (S2.out.cells 2 rfl).cell 0
    have v1 := (S2.out.cells 2 rfl).cell 1
    simp only [List.getElem?_toArray, List.getElem?_cons_zero, List.getElem?_cons_succ] at y0 y1 y2 v0 v1
    by_cases hok : NewOk ni X nf Fs m xs sl hl
    case neg =>
      obtain ⟨er, her, hnew⟩ := new_no A ni ci X B nf cf Fs m NA xs nc sl hl hok
      rw [HX.out] at hnew
      have HNEW := Lib.hid hnew
      have CB := Lib.hid (fun wx (hb : Below w.heap.size w wx) => CA0.out.below hb fun b h => h)
      clear hnew hok
      go_upto_region 6 with (go_at_call 19; refine (HNEW.out _ _ (CB.out _ (S2.out.low 0 rfl))).mono ?_; rintro e w3 ⟨rfl, b3⟩)
      have S3 := Lib.hid (S2.out.quiet (Only.ofBelow b3))
      clear S2 b3 y0 y1 y2 v0 v1 HNEW CB CA0
      rcases her with rfl | rfl | rfl
      all_goals
        go_wp2_with (go_at_call 18; refine (num_c _ _).mono ?_; rintro e w9 ⟨rfl, hw9⟩; subst hw9)
        go_ret
        exact ⟨rfl, S3.out.low 0 rfl⟩
    case pos =>
      have c1 := hok.s0
      have c2 := hok.s1
      have c3 := hok.h0
      have c4 := hok.h1
      obtain ⟨sl2, hsl2⟩ : ∃ x, x = if sl + us < 1099511627776 then sl + us else 1099511627776 := ⟨_, rfl⟩
      obtain ⟨hl2, hhl2⟩ : ∃ x, x = if hl + uh < 1099511627776 then hl + uh else 1099511627776 := ⟨_, rfl⟩
      have d1 : sl ≤ sl2 ∧ sl2 ≤ 1099511627776 := by rw [hsl2]; split <;> omega
      have d2 : hl ≤ hl2 ∧ hl2 ≤ 1099511627776 := by rw [hhl2]; split <;> omega
      have hok2 : NewOk ni X nf Fs m xs sl2 hl2 := ⟨hok.ok, hok.inp, by omega, by omega, by omega, by omega⟩
      have SK := Lib.hid (CA0.out.sound hok)
      have SK2 := Lib.hid (CA0.out.sound hok2)
      have NY := Lib.hid (fun wx z l (h : Fam wx z l) (hb : Below w.heap.size w wx) => h.new_ (CA0.out.below hb fun b h => h) hok n HX.out)
      have NZ := Lib.hid (fun wx z l (h : Fam wx z l) (hb : Below w.heap.size w wx) => h.new_ (CA0.out.below hb fun b h => h) hok2 n HX.out)
      have MR : Hid (More (kOf ni X nf Fs m sl hl) (kOf ni X nf Fs m sl2 hl2)) := ⟨rfl, rfl, d1.1, d2.1⟩
      have GL := Lib.hid (grow_new MR.out rfl a xs)
      have HS1 : Hid ((newQ (kOf ni X nf Fs m sl hl) xs).steps = 0) := newQ_steps _ _
      have HS2 : Hid ((newQ (kOf ni X nf Fs m sl2 hl2) xs).steps = 0) := newQ_steps _ _
      generalize kOf ni X nf Fs m sl hl = K1 at *
      generalize kOf ni X nf Fs m sl2 hl2 = K2 at *
      generalize newQ K1 xs = p1 at *
      generalize newQ K2 xs = p2 at *
      clear hok hok2 CA0 HX MR
      have HSL := Lib.hid hsl2
      have HHL := Lib.hid hhl2
      clear hsl2 hhl2
      go_upto_region 6 with (go_at_call 19; refine (NY.out _ _ _ S2.out (S2.out.low 0 rfl)).mono ?_; rintro e w3 ⟨g1, z3, rfl, f3⟩)
      have S3 := Lib.hid f3
      clear S2 f3 y0 y1 y2 v0 v1
      go_upto_region 8 with (go_at_call 18; refine (num_c _ _).mono ?_; rintro e w9 ⟨rfl, hw9⟩; subst hw9)
      have y0 := (S3.out.cells 1 rfl).cell 0
      have y1 := (S3.out.cells 1 rfl).cell 1
      have y2 := (S3.out.cells 1 rfl).cell 2
      have v0 := (S3.out.cells 2 rfl).cell 0
      have v1 := (S3.out.cells 2 rfl).cell 1
      simp only [List.getElem?_toArray, List.getElem?_cons_zero, List.getElem?_cons_succ] at y0 y1 y2 v0 v1
      have m0 := (S3.out.cells 3 rfl).cell 0
      have m1 := (S3.out.cells 3 rfl).cell 1
      simp only [List.getElem?_toArray, List.getElem?_cons_zero, List.getElem?_cons_succ] at m0 m1
      go_upto_region 9 with fail
      rw [← HSL.out, ← HHL.out]
      obtain ⟨z4, f4⟩ := S3.out.blk #[.int .i64 sl2, .int .i64 hl2] 38
      have S4 : Hid (Fam (w9.alloc (.cells #[.int .i64 sl2, .int .i64 hl2] 38)) z4 [TL w, TB w.heap.size 25 #[.slice A ni ci, .slice B nf cf, .int .i64 m], TB (w.heap.size + 1) 38 #[.int .i64 sl, .int .i64 hl], TB (w.heap.size + 2) 38 #[.int .i64 ms, .int .i64 mh], TM g1 K1 p1, TB w9.heap.size 38 #[.int .i64 sl2, .int .i64 hl2]]) := f4
      clear f4 S3 y0 y1 y2 v0 v1 m0 m1 HSL HHL NY
      generalize World.alloc w9 _ = w4 at *
      generalize w9.heap.size = gl at *
      have y0 := (S4.out.cells 1 rfl).cell 0
      have y1 := (S4.out.cells 1 rfl).cell 1
      have y2 := (S4.out.cells 1 rfl).cell 2
      have v0 := (S4.out.cells 5 rfl).cell 0
      have v1 := (S4.out.cells 5 rfl).cell 1
      simp only [List.getElem?_toArray, List.getElem?_cons_zero, List.getElem?_cons_succ] at y0 y1 y2 v0 v1
      go_upto_region 10 with (go_at_call 19; refine (NZ.out _ _ _ S4.out (S4.out.low 0 rfl)).mono ?_; rintro e w5 ⟨g2, z5, rfl, f5⟩)
      have S5 : Hid (Fam w5 z5 [TL w, TB w.heap.size 25 #[.slice A ni ci, .slice B nf cf, .int .i64 m], TB (w.heap.size + 1) 38 #[.int .i64 sl, .int .i64 hl], TB (w.heap.size + 2) 38 #[.int .i64 ms, .int .i64 mh], TM g1 K1 p1, TB gl 38 #[.int .i64 sl2, .int .i64 hl2], TM g2 K2 p2]) := f5
      clear f5 S4 y0 y1 y2 v0 v1 NZ
      go_upto_region 12 with (go_at_call 18; refine (num_c _ _).mono ?_; rintro e w9 ⟨rfl, hw9⟩; subst hw9)
      have RA := Lib.hid (fun wx z l (h : Fam wx z l) (hi : l[4]? = some (TM g1 K1 p1)) => h.run SK.out 4 g1 hi (a : Int) (by omega) (by omega) (by rw [HS1.out]; have := madeN_le K1 (a : Int).toNat p1; omega) (by rw [Int.toNat_natCast]) (QV.of (runN K1 a p1)))
      have RB := Lib.hid (fun wx z l (h : Fam wx z l) (hi : l[6]? = some (TM g2 K2 p2)) => h.run SK2.out 6 g2 hi (a : Int) (by omega) (by omega) (by rw [HS2.out]; have := madeN_le K2 (a : Int).toNat p2; omega) (by rw [Int.toNat_natCast]) (QV.of (runN K2 a p2)))
      generalize runN K1 a p1 = q1 at *
      generalize runN K2 a p2 = q2 at *
      go_upto_region 13 with (go_at_call 20; refine (RA.out _ _ _ S5.out rfl).mono ?_; rintro e w6 ⟨Ax, cx, z6, rfl, f6⟩)
      obtain ⟨z7, f7⟩ := f6.blk #[.slice Ax q1.ev.length cx, .int .i64 q1.fin, .int .i64 q1.kind, .int .i64 q1.val, .int .i64 q1.steps, .int .i64 q1.hp.tk, .int .i64 q1.depth] 44
      have S7 : Hid (Fam (w6.alloc (.cells #[.slice Ax q1.ev.length cx, .int .i64 q1.fin, .int .i64 q1.kind, .int .i64 q1.val, .int .i64 q1.steps, .int .i64 q1.hp.tk, .int .i64 q1.depth] 44)) z7 [TL w, TB w.heap.size 25 #[.slice A ni ci, .slice B nf cf, .int .i64 m], TB (w.heap.size + 1) 38 #[.int .i64 sl, .int .i64 hl], TB (w.heap.size + 2) 38 #[.int .i64 ms, .int .i64 mh], TM g1 K1 q1, TB gl 38 #[.int .i64 sl2, .int .i64 hl2], TM g2 K2 p2, TR (.slice Ax q1.ev.length cx) q1.ev.length q1.ev, TB w6.heap.size 44 #[.slice Ax q1.ev.length cx, .int .i64 q1.fin, .int .i64 q1.kind, .int .i64 q1.val, .int .i64 q1.steps, .int .i64 q1.hp.tk, .int .i64 q1.depth]]) := f7
      clear f6 f7 S5 RA
      generalize World.alloc w6 _ = w7 at *
      generalize w6.heap.size = gx at *
      go_upto_region 14 with (go_at_call 20; refine (RB.out _ _ _ S7.out rfl).mono ?_; rintro e w8 ⟨Ay, cy, z8, rfl, f8⟩)
      obtain ⟨z9, f9⟩ := f8.blk #[.slice Ay q2.ev.length cy, .int .i64 q2.fin, .int .i64 q2.kind, .int .i64 q2.val, .int .i64 q2.steps, .int .i64 q2.hp.tk, .int .i64 q2.depth] 44
      have S9 : Hid (Fam (w8.alloc (.cells #[.slice Ay q2.ev.length cy, .int .i64 q2.fin, .int .i64 q2.kind, .int .i64 q2.val, .int .i64 q2.steps, .int .i64 q2.hp.tk, .int .i64 q2.depth] 44)) z9 [TL w, TB w.heap.size 25 #[.slice A ni ci, .slice B nf cf, .int .i64 m], TB (w.heap.size + 1) 38 #[.int .i64 sl, .int .i64 hl], TB (w.heap.size + 2) 38 #[.int .i64 ms, .int .i64 mh], TM g1 K1 q1, TB gl 38 #[.int .i64 sl2, .int .i64 hl2], TM g2 K2 q2, TR (.slice Ax q1.ev.length cx) q1.ev.length q1.ev, TB gx 44 #[.slice Ax q1.ev.length cx, .int .i64 q1.fin, .int .i64 q1.kind, .int .i64 q1.val, .int .i64 q1.steps, .int .i64 q1.hp.tk, .int .i64 q1.depth], TR (.slice Ay q2.ev.length cy) q2.ev.length q2.ev, TB w8.heap.size 44 #[.slice Ay q2.ev.length cy, .int .i64 q2.fin, .int .i64 q2.kind, .int .i64 q2.val, .int .i64 q2.steps, .int .i64 q2.hp.tk, .int .i64 q2.depth]]) := f9
      clear f8 f9 S7 RB
      generalize World.alloc w8 _ = w9 at *
      generalize w8.heap.size = gy at *
      have x0 := (S9.out.cells 8 rfl).cell 0
      have x1 := (S9.out.cells 8 rfl).cell 1
      have x2 := (S9.out.cells 8 rfl).cell 2
      have x3 := (S9.out.cells 8 rfl).cell 3
      have x4 := (S9.out.cells 8 rfl).cell 4
      have x5 := (S9.out.cells 8 rfl).cell 5
      have x6 := (S9.out.cells 8 rfl).cell 6
      have y0 := (S9.out.cells 10 rfl).cell 0
      have y1 := (S9.out.cells 10 rfl).cell 1
      have y2 := (S9.out.cells 10 rfl).cell 2
      have y3 := (S9.out.cells 10 rfl).cell 3
      have y4 := (S9.out.cells 10 rfl).cell 4
      have y5 := (S9.out.cells 10 rfl).cell 5
      have y6 := (S9.out.cells 10 rfl).cell 6
      simp only [List.getElem?_toArray, List.getElem?_cons_zero, List.getElem?_cons_succ] at x0 x1 x2 x3 x4 x5 x6 y0 y1 y2 y3 y4 y5 y6
      by_cases hend : q1.fin = 2 ∧ (q1.kind = 7 ∨ q1.kind = 8)
      · have hle : q1.ev.length ≤ q2.ev.length ∧ q1.steps ≤ q2.steps := by
          rcases GL.out with e | e
          · rw [e]; exact ⟨Nat.le_refl _, Int.le_refl _⟩
          · exact e.2.2
        obtain ⟨hf2, hk⟩ := hend
        have LO := Lib.hid (S9.out.low 0 rfl)
        rw [hf2] at x1
        clear GL S9
        generalize q1.ev.length = n1 at *
        generalize q2.ev.length = n2 at *
        generalize q1.steps = s1 at *
        generalize q2.steps = s2 at *
        obtain ⟨le1, le2⟩ := hle
        have hd1 : decide ((n1 : Int) ≤ (n2 : Int)) = true := decide_eq_true (by omega)
        have hd2 : decide (s1 ≤ s2) = true := decide_eq_true le2
        have le3 : (n1 : Int) ≤ (n2 : Int) := by omega
        rcases hk with hk | hk
        all_goals
          rw [hk] at x2
          clear hf2 hk
          go_wp2_with fail
          go_ret
          exact ⟨rfl, LO.out⟩
      · have e12 : q2 = q1 := by
          rcases GL.out with e | e
          · exact e
          · exact absurd ⟨e.1, e.2.1⟩ hend
        subst e12
        have hn2 : q2.ev.length ≤ 1048576 := (S9.out.at_ 4 _ rfl).1.evn
        have SV := Lib.hid (S9.out.same 7 9 rfl hn2 rfl rfl q2.fin q2.kind q2.val q2.steps q2.hp.tk q2.depth)
        have HE := Lib.hid hend
        clear GL S9 hend
        generalize q2.ev.length = n2 at *
        generalize q2.fin = fi at *
        generalize q2.kind = ki at *
        by_cases hf2 : fi = 2
        · subst hf2
          have hk7 : (ki == 7) = false := beq_eq_false_iff_ne.2 fun e => HE.out ⟨rfl, .inl e⟩
          have hk8 : (ki == 8) = false := beq_eq_false_iff_ne.2 fun e => HE.out ⟨rfl, .inr e⟩
          go_wp2_with (go_at_call 23; refine SV.out.mono ?_; rintro e wz ⟨rfl, fz⟩)
          go_ret
          exact ⟨rfl, fz.low 0 rfl⟩
        · have hf3 : (fi == 2) = false := beq_eq_false_iff_ne.2 hf2
          clear hf2
          go_wp2_with (go_at_call 23; refine SV.out.mono ?_; rintro e wz ⟨rfl, fz⟩)
          go_ret
          exact ⟨rfl, fz.low 0 rfl⟩
theorem r16grows_c (w : World) (A : Option Addr) (ni ci : Nat) (X : Nat → Ins) (B : Option Addr) (nf cf : Nat) (Fs : Nat → Fn) (m : Int) (hc : ni ≤ ci ∧ (A = none → ci = 0)) (hd : nf ≤ cf ∧ (B = none → cf = 0)) (hm : i64in m) (hi : IL w (fun b => b < w.heap.size) A ni X) (hf : FL w (fun b => b < w.heap.size) B nf Fs) (NA : Option Addr) (n nc : Nat) (xs : List Int) (hx : xs.length = n) (hN : NL w (fun b => b < w.heap.size) NA xs) (hxw : ∀ x ∈ xs, i64in x) (hNA : NA = none → nc = 0) (sl hl ms mh f0 : Int) (h1 : ni ≤ 140737488351232) (h2 : n ≤ 140737488351232) :
    Calls Try.prog 5 #[codeV A ni ci B nf cf m, .slice NA n nc, .agg #[.int .i64 sl, .int .i64 hl], .agg #[.int .i64 ms, .int .i64 mh], .int .i64 f0] w fun e w' => e = .returned (.bool true) ∧ Below w.heap.size w w' := by
  obtain ⟨o0, o1⟩ := and_rng f0 32767 (by decide)
  obtain ⟨p0, p1⟩ := and_rng ms 1048575 (by decide)
  obtain ⟨t0, t1⟩ := and_rng mh 1048575 (by decide)
  rw [show ((32767 : Nat) : Int) = 32767 from rfl] at o0 o1
  rw [show ((1048575 : Nat) : Int) = 1048575 from rfl] at p0 p1 t0 t1
  obtain ⟨a, ha⟩ := Int.eq_ofNat_of_zero_le o0
  exact grows_c w A ni ci X B nf cf Fs m hc.1 hm hi hf hc.2 hd.2 NA n nc xs hx hN hxw hNA sl hl ms mh f0 (by omega) a ha (by omega) _ _ rfl rfl p0 p1 t0 t1
end Go.Proofs.Ytkjfbojmkkdgoaa
