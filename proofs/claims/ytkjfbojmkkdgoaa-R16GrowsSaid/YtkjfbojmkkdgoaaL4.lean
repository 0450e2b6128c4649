/- r16's statements: a program of one function. -/
import Derived.Test.YtkjfbojmkkdgoaaL3
set_option linter.unusedVariables false
set_option linter.unusedSimpArgs false
namespace Go.Proofs.Ytkjfbojmkkdgoaa
open Go.RowKit
attribute [local go_sem ↓] Go.wp_at_zero Go.wp_at_succ
set_option maxRecDepth 100000 in
set_option maxHeartbeats 8000000 in
theorem one_c (w : World) (G : Nat → Prop) (hG : ∀ b, G b → b < w.heap.size) (A : Option Addr) (n c : Nat) (X : Nat → Ins) (frame : Int) (hf : i64in frame) (hi : IL w G A n X) (hc : n ≤ c) (hA : A = none → c = 0) (hn : n ≤ 1000000000) (hok : CodeOk n X 1 (mainF frame n) 0) (sl hl : Int) (h0 : ¬ sl < 0) (h1 : ¬ 1099511627776 < sl) (h2 : ¬ hl < 0) (h3 : ¬ 1099511627776 < hl) (fuel : Int) (hfu : ¬ fuel < 0) (hfu2 : ¬ 1099511627776 < fuel) (hmade : (madeN ({ ni := n, X := X, nf := 1, Fs := mainF frame n, mn := 0, sl := sl, hl := hl } : MK) fuel.toNat (newQ ({ ni := n, X := X, nf := 1, Fs := mainF frame n, mn := 0, sl := sl, hl := hl } : MK) []) : Int) < 4000000000000) :
    Calls Try.prog 24 #[.slice A n c, .int .i64 frame, .agg #[.int .i64 sl, .int .i64 hl], .slice none 0 0, .int .i64 fuel] w fun e w' => ∃ v, e = .returned (.tuple #[outR (runN ({ ni := n, X := X, nf := 1, Fs := mainF frame n, mn := 0, sl := sl, hl := hl } : MK) fuel.toNat (newQ ({ ni := n, X := X, nf := 1, Fs := mainF frame n, mn := 0, sl := sl, hl := hl } : MK) [])) v, .bool true]) ∧ Row w' (fun b => w.heap.size ≤ b) 50 2 v (runN ({ ni := n, X := X, nf := 1, Fs := mainF frame n, mn := 0, sl := sl, hl := hl } : MK) fuel.toNat (newQ ({ ni := n, X := X, nf := 1, Fs := mainF frame n, mn := 0, sl := sl, hl := hl } : MK) [])).ev.length (evs (runN ({ ni := n, X := X, nf := 1, Fs := mainF frame n, mn := 0, sl := sl, hl := hl } : MK) fuel.toNat (newQ ({ ni := n, X := X, nf := 1, Fs := mainF frame n, mn := 0, sl := sl, hl := hl } : MK) [])).ev) ∧ Below w.heap.size w w' := by
  obtain ⟨K, hK⟩ : ∃ K : MK, K = ({ ni := n, X := X, nf := 1, Fs := mainF frame n, mn := 0, sl := sl, hl := hl } : MK) := ⟨_, rfl⟩
  rw [← hK] at hmade ⊢
  obtain ⟨qf, hqf⟩ : ∃ qf, qf = runN K fuel.toNat (newQ K []) := ⟨_, rfl⟩
  rw [← hqf]
  have O3 : Only (fun _ => False) w ((((w.alloc (.cells #[.int .i64 sl, .int .i64 hl] 38)).alloc (.cells #[.slice none 0 0, .int .i64 0, .int .i64 0, .int .i64 0, .int .i64 0, .int .i64 0, .int .i64 0] 44)).alloc (.cells #[.string ⟨#[109, 97, 105, 110]⟩, .int .i64 frame, .int .i64 0, .int .i64 n, .int .i64 0] 61)).alloc (.cells #[.slice A n c, .slice (some ⟨w.heap.size + 1 + 1, 0, none⟩) 1 1, .int .i64 0] 25)) := ((((Only.refl (fun _ => False) w).alloc _).alloc _).alloc _).alloc _
  have B0 : Blk ((((w.alloc (.cells #[.int .i64 sl, .int .i64 hl] 38)).alloc (.cells #[.slice none 0 0, .int .i64 0, .int .i64 0, .int .i64 0, .int .i64 0, .int .i64 0, .int .i64 0] 44)).alloc (.cells #[.string ⟨#[109, 97, 105, 110]⟩, .int .i64 frame, .int .i64 0, .int .i64 n, .int .i64 0] 61)).alloc (.cells #[.slice A n c, .slice (some ⟨w.heap.size + 1 + 1, 0, none⟩) 1 1, .int .i64 0] 25)) w.heap.size 38 #[.int .i64 sl, .int .i64 hl] := (((blk_at rfl).alloc _).alloc _).alloc _
  have B1 : Blk ((((w.alloc (.cells #[.int .i64 sl, .int .i64 hl] 38)).alloc (.cells #[.slice none 0 0, .int .i64 0, .int .i64 0, .int .i64 0, .int .i64 0, .int .i64 0, .int .i64 0] 44)).alloc (.cells #[.string ⟨#[109, 97, 105, 110]⟩, .int .i64 frame, .int .i64 0, .int .i64 n, .int .i64 0] 61)).alloc (.cells #[.slice A n c, .slice (some ⟨w.heap.size + 1 + 1, 0, none⟩) 1 1, .int .i64 0] 25)) (w.heap.size + 1) 44 #[.slice none 0 0, .int .i64 0, .int .i64 0, .int .i64 0, .int .i64 0, .int .i64 0, .int .i64 0] := ((blk_at (by simp)).alloc _).alloc _
  have B2 : Blk ((((w.alloc (.cells #[.int .i64 sl, .int .i64 hl] 38)).alloc (.cells #[.slice none 0 0, .int .i64 0, .int .i64 0, .int .i64 0, .int .i64 0, .int .i64 0, .int .i64 0] 44)).alloc (.cells #[.string ⟨#[109, 97, 105, 110]⟩, .int .i64 frame, .int .i64 0, .int .i64 n, .int .i64 0] 61)).alloc (.cells #[.slice A n c, .slice (some ⟨w.heap.size + 1 + 1, 0, none⟩) 1 1, .int .i64 0] 25)) (w.heap.size + 1 + 1) 61 #[.string ⟨#[109, 97, 105, 110]⟩, .int .i64 frame, .int .i64 0, .int .i64 n, .int .i64 0] := (blk_at (by simp)).alloc _
  have hs3 : ((((w.alloc (.cells #[.int .i64 sl, .int .i64 hl] 38)).alloc (.cells #[.slice none 0 0, .int .i64 0, .int .i64 0, .int .i64 0, .int .i64 0, .int .i64 0, .int .i64 0] 44)).alloc (.cells #[.string ⟨#[109, 97, 105, 110]⟩, .int .i64 frame, .int .i64 0, .int .i64 n, .int .i64 0] 61)).alloc (.cells #[.slice A n c, .slice (some ⟨w.heap.size + 1 + 1, 0, none⟩) 1 1, .int .i64 0] 25)).heap.size = w.heap.size + 4 := by simp
  have HI := Lib.hid (hi.tr (G' := fun b => b < w.heap.size) O3 fun b hb h => ⟨fun h => h, hb⟩)
  have HOK := Lib.hid hok
  have HM := Lib.hid hmade
  have HK := Lib.hid hK
  have HQ := Lib.hid hqf
  have SK : Hid (Sound K) := by
    rw [hK]
    exact ⟨hok, by show (n : Int) ≤ _; omega, fun k hk => (hi.2 k hk).1.n, by show 0 ≤ sl; omega, by show sl ≤ _; omega, by show 0 ≤ hl; omega, by show hl ≤ _; omega⟩
  have LN := Lib.hid (show i64in (n : Int) from ⟨by omega, by omega⟩)
  have O3 := Lib.hid O3
  have B0 := Lib.hid B0
  have B1 := Lib.hid B1
  have B2 := Lib.hid B2
  have HF := Lib.hid hf
  have HG := Lib.hid hG
  clear hi hok hmade hK hqf hf hG
  go_enter Try.func24, Try.ntmps24
  go_wp2_with fail
  generalize World.alloc (World.alloc (World.alloc _ _) _) _ = w3 at *
  have hle : w.heap.size ≤ w3.heap.size := by omega
  refine (new_ok w3 (fun x => x < w3.heap.size) (fun _ h => h) A n c X _ 1 1 (mainF frame n) 0 (HI.out.tr (Only.refl (fun _ => False) w3) fun x hx _ => ⟨fun h => h, hx⟩) hc (FL_blk B2.out (by rfl) (main_in frame n HF.out LN.out) (by decide) (by show w.heap.size + 1 + 1 < w3.heap.size; omega)) in_0 (by decide) none [] 0 ⟨by decide, fun i hi => by cases hi⟩ sl hl HOK.out (by decide) (by omega) (by omega) (by omega) (by omega) hA (fun h => by cases h) (fun _ => rfl) (fun x hx => by cases hx) hn).mono ?_
  rintro e w4 ⟨g, rfl, hM4, hb4⟩
  rw [← HK.out] at hM4
  have RC := Lib.hid (run_c SK.out w4 (fun x => w3.heap.size ≤ x) g (newQ K []) hM4 (fun x hx => Nat.le_trans hb4.size hx) fuel (by omega) (by omega) (by rw [newQ_steps]; have := HM.out; omega))
  have hs34 := hb4.size
  have O34 := Lib.hid (Only.ofBelow (F := fun _ => False) hb4)
  clear hM4 hb4
  go_wp2_with (go_at_call 18; refine (num_c _ _).mono ?_; rintro e w9 ⟨rfl, hw9⟩; subst hw9)
  refine RC.out.mono ?_
  rintro e w5 ⟨v, rfl, hR, -, hO5⟩
  rw [← HQ.out] at hR ⊢
  obtain ⟨Av, capv, rfl, -⟩ := hR.shape
  unfold outR
  have HR := Lib.hid hR
  have O35 := Lib.hid ((O34.out.mono (G := fun x => w3.heap.size ≤ x) fun _ _ h => h.elim).then_ ((hO5.mono (G := fun x => w3.heap.size ≤ x) fun _ _ h => h)) : Only (fun x => w3.heap.size ≤ x) w3 w5)
  have hs45 := hO5.size
  have B15 := B1.out.only O35.out (fun e => by have e1 : w3.heap.size ≤ w.heap.size + 1 := e; omega)
  clear hR hO5 RC
  have y0 := B15.cell 0
  have y1 := B15.cell 1
  have y2 := B15.cell 2
  have y3 := B15.cell 3
  have y4 := B15.cell 4
  have y5 := B15.cell 5
  have y6 := B15.cell 6
  have zy := B15.frozen
  simp only [List.getElem?_toArray, List.getElem?_cons_zero, List.getElem?_cons_succ] at y0 y1 y2 y3 y4 y5 y6
  have hb15 := B15.lt
  have HB1 := Lib.hid B15
  clear B15
  go_wp2_with fail
  have BE : Blk (w5.alloc (.cells #[.slice Av qf.ev.length capv, .int .i64 qf.fin, .int .i64 qf.kind, .int .i64 qf.val, .int .i64 qf.steps, .int .i64 qf.hp.tk, .int .i64 qf.depth] 44)) w5.heap.size 44 #[.slice Av qf.ev.length capv, .int .i64 qf.fin, .int .i64 qf.kind, .int .i64 qf.val, .int .i64 qf.steps, .int .i64 qf.hp.tk, .int .i64 qf.depth] := blk_at rfl
  have BF := HB1.out.alloc (.cells #[.slice Av qf.ev.length capv, .int .i64 qf.fin, .int .i64 qf.kind, .int .i64 qf.val, .int .i64 qf.steps, .int .i64 qf.hp.tk, .int .i64 qf.depth] 44)
  have HR6 := Lib.hid (HR.out.alloc (.cells #[.slice Av qf.ev.length capv, .int .i64 qf.fin, .int .i64 qf.kind, .int .i64 qf.val, .int .i64 qf.steps, .int .i64 qf.hp.tk, .int .i64 qf.depth] 44))
  have O36 := Lib.hid (O35.out.alloc (.cells #[.slice Av qf.ev.length capv, .int .i64 qf.fin, .int .i64 qf.kind, .int .i64 qf.val, .int .i64 qf.steps, .int .i64 qf.hp.tk, .int .i64 qf.depth] 44))
  have x0 := BE.cell 0
  have x1 := BE.cell 1
  have x2 := BE.cell 2
  have x3 := BE.cell 3
  have x4 := BE.cell 4
  have x5 := BE.cell 5
  have x6 := BE.cell 6
  clear y0 y1 y2 y3 y4 y5 y6 zy
  have y0 := BF.cell 0
  have y1 := BF.cell 1
  have y2 := BF.cell 2
  have y3 := BF.cell 3
  have y4 := BF.cell 4
  have y5 := BF.cell 5
  have y6 := BF.cell 6
  have zy := BF.frozen
  simp only [List.getElem?_toArray, List.getElem?_cons_zero, List.getElem?_cons_succ] at x0 x1 x2 x3 x4 x5 x6 y0 y1 y2 y3 y4 y5 y6
  have hne : w.heap.size + 1 ≠ w5.heap.size := by omega
  have HB6 := Lib.hid BF
  clear BE BF
  generalize World.alloc _ _ = w6 at *
  generalize w5.heap.size = s6 at *
  have BF := (((((((HB6.out.set_ 0 (.slice Av qf.ev.length capv)).set_ 1 (.int .i64 qf.fin)).set_ 2 (.int .i64 qf.kind)).set_ 3 (.int .i64 qf.val)).set_ 4 (.int .i64 qf.steps)).set_ 5 (.int .i64 qf.hp.tk)).set_ 6 (.int .i64 qf.depth))
  simp only [List.setIfInBounds_toArray, List.set_cons_zero, List.set_cons_succ] at BF
  have OF := ((((((((Only.refl (fun b => b = w.heap.size + 1) w6).cells (p := ⟨w.heap.size + 1, 0, none⟩) rfl (.slice Av qf.ev.length capv)).cells (p := ⟨w.heap.size + 1, 1, none⟩) rfl (.int .i64 qf.fin)).cells (p := ⟨w.heap.size + 1, 2, none⟩) rfl (.int .i64 qf.kind)).cells (p := ⟨w.heap.size + 1, 3, none⟩) rfl (.int .i64 qf.val)).cells (p := ⟨w.heap.size + 1, 4, none⟩) rfl (.int .i64 qf.steps)).cells (p := ⟨w.heap.size + 1, 5, none⟩) rfl (.int .i64 qf.hp.tk)).cells (p := ⟨w.heap.size + 1, 6, none⟩) rfl (.int .i64 qf.depth))
  have FIN := Lib.hid (show Blk (((((((w6.setCell ⟨w.heap.size + 1, 0, none⟩ (.slice Av qf.ev.length capv)).setCell ⟨w.heap.size + 1, 1, none⟩ (.int .i64 qf.fin)).setCell ⟨w.heap.size + 1, 2, none⟩ (.int .i64 qf.kind)).setCell ⟨w.heap.size + 1, 3, none⟩ (.int .i64 qf.val)).setCell ⟨w.heap.size + 1, 4, none⟩ (.int .i64 qf.steps)).setCell ⟨w.heap.size + 1, 5, none⟩ (.int .i64 qf.hp.tk)).setCell ⟨w.heap.size + 1, 6, none⟩ (.int .i64 qf.depth)).drew (w.heap.size + 1) 44 #[.slice Av qf.ev.length capv, .int .i64 qf.fin, .int .i64 qf.kind, .int .i64 qf.val, .int .i64 qf.steps, .int .i64 qf.hp.tk, .int .i64 qf.depth] ∧ Row (((((((w6.setCell ⟨w.heap.size + 1, 0, none⟩ (.slice Av qf.ev.length capv)).setCell ⟨w.heap.size + 1, 1, none⟩ (.int .i64 qf.fin)).setCell ⟨w.heap.size + 1, 2, none⟩ (.int .i64 qf.kind)).setCell ⟨w.heap.size + 1, 3, none⟩ (.int .i64 qf.val)).setCell ⟨w.heap.size + 1, 4, none⟩ (.int .i64 qf.steps)).setCell ⟨w.heap.size + 1, 5, none⟩ (.int .i64 qf.hp.tk)).setCell ⟨w.heap.size + 1, 6, none⟩ (.int .i64 qf.depth)).drew (fun b => w.heap.size ≤ b) 50 2 (.slice Av qf.ev.length capv) qf.ev.length (evs qf.ev) ∧ Below w.heap.size w (((((((w6.setCell ⟨w.heap.size + 1, 0, none⟩ (.slice Av qf.ev.length capv)).setCell ⟨w.heap.size + 1, 1, none⟩ (.int .i64 qf.fin)).setCell ⟨w.heap.size + 1, 2, none⟩ (.int .i64 qf.kind)).setCell ⟨w.heap.size + 1, 3, none⟩ (.int .i64 qf.val)).setCell ⟨w.heap.size + 1, 4, none⟩ (.int .i64 qf.steps)).setCell ⟨w.heap.size + 1, 5, none⟩ (.int .i64 qf.hp.tk)).setCell ⟨w.heap.size + 1, 6, none⟩ (.int .i64 qf.depth)).drew from by
    refine ⟨BF.drew, (HR6.out.tr OF.drew fun b hb h => ⟨fun e => ?_, ?_⟩), ?_⟩
    · have e1 : b = w.heap.size + 1 := e
      have h2 : w9.heap.size ≤ b := h
      omega
    · have h2 : w9.heap.size ≤ b := h
      show w.heap.size ≤ b
      omega
    · have o1 := (O3.out.trans (G := fun x => w3.heap.size ≤ x) O36.out fun b h1 h2 => by have h3 : w3.heap.size ≤ b := h2; omega)
      exact (o1.trans (G := fun b => b = w.heap.size + 1) OF.drew fun b h1 h2 => by have h3 : b = w.heap.size + 1 := h2; omega).toBelow (Nat.le_refl _) fun _ _ h => h)
  clear BF OF
  refine wp_region_held_drew (S := (fun _ => True)) (by kernel_rfl) (trivial) (fun hHeld => ?_)
  refine wpAnyH_take (i := 1) (v := ?_) (by simp only [List.getElem?_toArray, List.getElem?_cons_succ, List.getElem?_cons_zero]; rfl) (by kernel_rfl) (by kernel_rfl) (by kernel_rfl) (by exact fun _ _ _ h => h) (Or.inl ⟨by rfl, ?_⟩) (by assumption) ?_
  rotate_left
  · (intro w hSw; (try dsimp only at hSw); go_simp; with_reducible rfl)
  try simp only [Act.put, List.setIfInBounds_toArray, List.set_cons_zero, List.set_cons_succ]
  refine wpAnyH_ready (rs := [0, 2]) (by kernel_rfl) (by simp) ?_
  refine AllReadyH.cons (by simp only [List.getElem?_toArray, List.getElem?_cons_succ, List.getElem?_cons_zero]; rfl) (fun K hK => ?_) ?_
  · go_simp
    refine hK.out _ _ (trivial) (fun hHeld => ?_)
    clear hK K
    try simp only [Act.put, List.setIfInBounds_toArray, List.set_cons_zero, List.set_cons_succ]
    refine wpAnyH_ready (rs := [2]) (by kernel_rfl) (by simp) ?_
    refine AllReadyH.cons (by simp only [List.getElem?_toArray, List.getElem?_cons_succ, List.getElem?_cons_zero]; rfl) (fun K hK => ?_) ?_
    · go_simp
      go_at_call 18
      refine (num_c _ _).mono ?_
      rintro e w7 ⟨rfl, hw7⟩
      subst hw7
      go_wp2_with fail
      refine hK.out _ _ (trivial) (fun hHeld => ?_)
      clear hK K
      try simp only [Act.put, List.setIfInBounds_toArray, List.set_cons_zero, List.set_cons_succ]
      refine wpAnyH_take (i := 3) (v := ?_) (by simp only [List.getElem?_toArray, List.getElem?_cons_succ, List.getElem?_cons_zero]; rfl) (by kernel_rfl) (by kernel_rfl) (by kernel_rfl) (by exact fun _ _ _ h => h) (Or.inl ⟨by rfl, ?_⟩) (by assumption) ?_
      rotate_left
      · (intro w hSw; (try dsimp only at hSw); go_simp; skip; with_reducible rfl)
      try simp only [Act.put, List.setIfInBounds_toArray, List.set_cons_zero, List.set_cons_succ]
      refine wpAnyH_ready (rs := [4]) (by kernel_rfl) (by simp) ?_
      refine AllReadyH.cons (by simp only [List.getElem?_toArray, List.getElem?_cons_succ, List.getElem?_cons_zero]; rfl) (fun K hK => ?_) ?_
      · go_simp
        refine hK.out _ _ (trivial) (fun hHeld => ?_)
        clear hK K
        try simp only [Act.put, List.setIfInBounds_toArray, List.set_cons_zero, List.set_cons_succ]
        refine wpAnyH_take (i := 5) (v := ?_) (by simp only [List.getElem?_toArray, List.getElem?_cons_succ, List.getElem?_cons_zero]; rfl) (by kernel_rfl) (by kernel_rfl) (by kernel_rfl) (by exact fun _ _ _ h => h) (Or.inl ⟨by rfl, ?_⟩) (by assumption) ?_
        rotate_left
        · (intro w hSw; (try dsimp only at hSw); go_simp; skip; with_reducible rfl)
        try simp only [Act.put, List.setIfInBounds_toArray, List.set_cons_zero, List.set_cons_succ]
        refine wpAnyH_done (by kernel_rfl) ?_ _
        go_wp2_with fail
        refine bodyPost_ret (results_cell2 rfl (a := ⟨w.heap.size + 1, 0, none⟩) rfl rfl (run_loadVar_row _ (w.heap.size + 1) 44 44 _ (0, 0) _ FIN.out.1 Try.underlying44 rfl (by kernel_rfl))) rfl ?_
        exact ⟨_, rfl, FIN.out.2⟩
      exact AllReadyH.nil
    exact AllReadyH.nil
  refine AllReadyH.cons (by simp only [List.getElem?_toArray, List.getElem?_cons_succ, List.getElem?_cons_zero]; rfl) (fun K hK => ?_) ?_
  · go_simp
    go_at_call 18
    refine (num_c _ _).mono ?_
    rintro e w7 ⟨rfl, hw7⟩
    subst hw7
    go_wp2_with fail
    refine hK.out _ _ (trivial) (fun hHeld => ?_)
    clear hK K
    try simp only [Act.put, List.setIfInBounds_toArray, List.set_cons_zero, List.set_cons_succ]
    refine wpAnyH_take (i := 3) (v := ?_) (by simp only [List.getElem?_toArray, List.getElem?_cons_succ, List.getElem?_cons_zero]; rfl) (by kernel_rfl) (by kernel_rfl) (by kernel_rfl) (by exact fun _ _ _ h => h) (Or.inl ⟨by rfl, ?_⟩) (by assumption) ?_
    rotate_left
    · (intro w hSw; (try dsimp only at hSw); go_simp; skip; with_reducible rfl)
    try simp only [Act.put, List.setIfInBounds_toArray, List.set_cons_zero, List.set_cons_succ]
    refine wpAnyH_ready (rs := [0]) (by kernel_rfl) (by simp) ?_
    refine AllReadyH.cons (by simp only [List.getElem?_toArray, List.getElem?_cons_succ, List.getElem?_cons_zero]; rfl) (fun K hK => ?_) ?_
    · go_simp
      refine hK.out _ _ (trivial) (fun hHeld => ?_)
      clear hK K
      try simp only [Act.put, List.setIfInBounds_toArray, List.set_cons_zero, List.set_cons_succ]
      refine wpAnyH_ready (rs := [4]) (by kernel_rfl) (by simp) ?_
      refine AllReadyH.cons (by simp only [List.getElem?_toArray, List.getElem?_cons_succ, List.getElem?_cons_zero]; rfl) (fun K hK => ?_) ?_
      · go_simp
        refine hK.out _ _ (trivial) (fun hHeld => ?_)
        clear hK K
        try simp only [Act.put, List.setIfInBounds_toArray, List.set_cons_zero, List.set_cons_succ]
        refine wpAnyH_take (i := 5) (v := ?_) (by simp only [List.getElem?_toArray, List.getElem?_cons_succ, List.getElem?_cons_zero]; rfl) (by kernel_rfl) (by kernel_rfl) (by kernel_rfl) (by exact fun _ _ _ h => h) (Or.inl ⟨by rfl, ?_⟩) (by assumption) ?_
        rotate_left
        · (intro w hSw; (try dsimp only at hSw); go_simp; skip; with_reducible rfl)
        try simp only [Act.put, List.setIfInBounds_toArray, List.set_cons_zero, List.set_cons_succ]
        refine wpAnyH_done (by kernel_rfl) ?_ _
        go_wp2_with fail
        refine bodyPost_ret (results_cell2 rfl (a := ⟨w.heap.size + 1, 0, none⟩) rfl rfl (run_loadVar_row _ (w.heap.size + 1) 44 44 _ (0, 0) _ FIN.out.1 Try.underlying44 rfl (by kernel_rfl))) rfl ?_
        exact ⟨_, rfl, FIN.out.2⟩
      exact AllReadyH.nil
    exact AllReadyH.nil
  exact AllReadyH.nil
end Go.Proofs.Ytkjfbojmkkdgoaa
