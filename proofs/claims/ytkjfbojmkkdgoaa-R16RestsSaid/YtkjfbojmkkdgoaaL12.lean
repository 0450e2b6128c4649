/- R16Rests: the walk. -/
import Derived.Test.YtkjfbojmkkdgoaaL7
import Derived.Test.YtkjfbojmkkdgoaaL11
set_option linter.unusedVariables false
set_option linter.unusedSimpArgs false
namespace Go.Proofs.Ytkjfbojmkkdgoaa
open Go.RowKit
attribute [local go_sem ↓] Go.wp_at_zero Go.wp_at_succ
theorem run_plain {K : MK} (s : Sound K) (w : World) (C : Nat → Prop) (g : Nat) (q q' : MQ) (h : MO w C g K q) (hC : ∀ b, w.heap.size ≤ b → C b) (fuel : Int) (hf : ¬ fuel < 0) (hf2 : ¬ 1099511627776 < fuel) (hst : q.steps + (madeN K fuel.toNat q : Int) < 4000000000000) (hq : runN K fuel.toNat q = q') :
    Calls Try.prog 20 #[.pointer (some ⟨g, 0, none⟩), .int .i64 fuel] w fun e w' => ∃ A cap, e = .returned (.tuple #[.agg #[.slice A q'.ev.length cap, .int .i64 q'.fin, .int .i64 q'.kind, .int .i64 q'.val, .int .i64 q'.steps, .int .i64 q'.hp.tk, .int .i64 q'.depth], .int .i64 0]) ∧ MO w' C g K q' ∧ Only C w w' := by
  refine (run_c s w C g q h hC fuel hf hf2 hst).mono ?_
  rw [hq]
  rintro e w' ⟨v, rfl, hR, hM, hO⟩
  obtain ⟨A, cap, rfl, -⟩ := hR.shape
  exact ⟨A, cap, rfl, hM.more fun b _ h => h.1, hO⟩
theorem run_ri {K : MK} (s : Sound K) (w : World) (C : Nat → Prop) (g : Nat) (q q' : MQ) (h : MO w C g K q) (hC : ∀ b, w.heap.size ≤ b → C b) (fuel : Int) (hf : ¬ fuel < 0) (hf2 : ¬ 1099511627776 < fuel) (hst : q.steps + (madeN K fuel.toNat q : Int) < 4000000000000) (hq : runN K fuel.toNat q = q') (a S : Int) (hr : RI q' a 1048576 S) :
    Calls Try.prog 20 #[.pointer (some ⟨g, 0, none⟩), .int .i64 fuel] w fun e w' => ∃ A cap n k v t d, e = .returned (.tuple #[.agg #[.slice A n cap, .int .i64 0, .int .i64 k, .int .i64 v, .int .i64 S, .int .i64 t, .int .i64 d], .int .i64 0]) ∧ (n : Int) = 1048576 ∧ MO w' C g K q' ∧ Only C w w' := by
  refine (run_plain s w C g q q' h hC fuel hf hf2 hst hq).mono ?_
  rintro e w' ⟨A, cap, rfl, hM, hO⟩
  refine ⟨A, cap, q'.ev.length, q'.kind, q'.val, q'.hp.tk, q'.depth, ?_, by rw [hr.ev]; rfl, hM, hO⟩
  rw [hr.fin, hr.steps]
theorem full_c (w : World) (k : Int) (hk : k = 0 ∨ k = 1 ∨ k = 2 ∨ k = 3) : Calls Try.prog 27 #[.int .i64 k] w fun e w' => e = .returned (.bool true) ∧ Below w.heap.size w w' := by
  rcases hk with rfl | rfl | rfl | rfl
  · exact full_c0 w
  · exact full_c1 w
  · exact full_c2 w
  · exact full_c3 w
theorem rest_in (op : Int) (h : i64in op) : ∀ i, i < 3 → InsIn (insOf (restL op) i) := by
  have h0 := in_0
  intro i hi
  have hh : i = 0 ∨ i = 1 ∨ i = 2 := by omega
  rcases hh with rfl | rfl | rfl
  · exact ⟨h, in_1, h0, h0, h0⟩
  · exact ⟨h, in_1, h0, h0, h0⟩
  · exact ⟨(⟨by decide, by decide⟩ : i64in 21), h0, h0, h0, h0⟩
theorem rest_code {op : Int} (ho : op = 37 ∨ op = 38) : CodeOk 3 (insOf (restL op)) 1 (mainF 2 3) 0 := by
  refine code_one (restL op) 2 (by decide) (by decide) (by show 1 ≤ 3; decide) (fun j hj => ?_) (by kernel_rfl)
  have h : j = 0 ∨ j = 1 ∨ j = 2 := by have h2 : j < 3 := hj; omega
  rcases ho with rfl | rfl <;> rcases h with rfl | rfl | rfl <;> (show insOk _ _ _ = true; kernel_rfl)
theorem rest_sound {op : Int} (ho : op = 37 ∨ op = 38) : Sound (restK op) := ⟨rest_code ho, (by decide : (3 : Int) ≤ 9223372036854775807), fun k hk => (rest_in op (by rcases ho with rfl | rfl <;> exact ⟨by decide, by decide⟩) k hk).n, (by decide : (0 : Int) ≤ 2), (by decide : (2 : Int) ≤ 1099511627776), (by decide : (0 : Int) ≤ 0), (by decide : (0 : Int) ≤ 1099511627776)⟩

set_option maxRecDepth 100000 in
set_option maxHeartbeats 8000000 in
theorem rests_0 (w : World) (n kind : Int) (hn : bits .and .i64 n 63 = 0) (hk : bits .and .i64 kind 1 = 0) : Calls Try.prog 10 #[.int .i64 n, .int .i64 kind] w fun e w' => e = .returned (.bool true) ∧ Below w.heap.size w w' := by
  have SK := Lib.hid (rest_sound (op := 37) (.inl rfl))
  obtain ⟨qa, hqa, ra, ma⟩ : ∃ qa, runN (restK 37) (1572863 : Int).toNat (newQ (restK 37) []) = qa ∧ RI qa 2 1048576 1572863 ∧ (newQ (restK 37) []).steps + (madeN (restK 37) (1572863 : Int).toNat (newQ (restK 37) []) : Int) < 4000000000000 := by
    have ht : (1572863 : Int).toNat = 1572863 := rfl
    rw [ht]
    refine ⟨_, rfl, rest_a (.inl rfl), ?_⟩
    have := madeN_le (restK 37) 1572863 (newQ (restK 37) [])
    rw [newQ_steps]; omega
  obtain ⟨qb, hqb, rb, mb⟩ : ∃ qb, runN (restK 37) (1000 : Int).toNat qa = qb ∧ RI qb 0 1048576 1572864 ∧ qa.steps + (madeN (restK 37) (1000 : Int).toNat qa : Int) < 4000000000000 := by
    have ht : (1000 : Int).toNat = 1000 := rfl
    rw [ht]
    have h := rest_b (op := 37) (.inl rfl) ra 999
    have e : 999 + 1 = 1000 := rfl
    rw [e] at h
    refine ⟨_, rfl, h.1, ?_⟩
    rw [h.2, ra.steps]; decide
  have gb : goes (restK 37) qb = false := rest_full (op := 37) (.inl rfl) rb
  have hqd : runN (restK 37) (1099511627776 : Int).toNat qb = qb := runN_rest _ _ gb _
  have md : qb.steps + (madeN (restK 37) (1099511627776 : Int).toNat qb : Int) < 4000000000000 := by rw [madeN_no gb, rb.steps]; decide
  have mst : qb.steps < 4000000000000 := by rw [rb.steps]; decide
  have RA := Lib.hid (And.intro hqa (And.intro ra ma))
  have RB := Lib.hid (And.intro hqb (And.intro rb mb))
  have RD := Lib.hid (And.intro hqd (And.intro md mst))
  have GB := Lib.hid gb
  clear hqa ra ma hqb rb mb gb hqd md mst
  go_enter Try.func10, Try.ntmps10
  go_wp2_with fail
  refine (alive_c w).mono ?_
  rintro e w1 ⟨rfl, hb1⟩
  have hb1 := Lib.hid hb1
  go_wp2_with fail
  have BI := Lib.hid (((blk_at rfl).alloc _).alloc _ : Blk (((w1.alloc (.cells #[.int .i64 37, .int .i64 1, .int .i64 0, .int .i64 0, .int .i64 0, .int .i64 37, .int .i64 1, .int .i64 0, .int .i64 0, .int .i64 0, .int .i64 21, .int .i64 0, .int .i64 0, .int .i64 0, .int .i64 0] 54)).alloc (.cells #[.string ⟨#[109, 97, 105, 110]⟩, .int .i64 2, .int .i64 0, .int .i64 3, .int .i64 0] 61)).alloc (.cells #[.slice (some ⟨w1.heap.size, 0, none⟩) 3 3, .slice (some ⟨w1.heap.size + 1, 0, none⟩) 1 1, .int .i64 0] 25)) w1.heap.size 54 _)
  have BF := Lib.hid ((blk_at (by simp)).alloc _ : Blk (((w1.alloc (.cells #[.int .i64 37, .int .i64 1, .int .i64 0, .int .i64 0, .int .i64 0, .int .i64 37, .int .i64 1, .int .i64 0, .int .i64 0, .int .i64 0, .int .i64 21, .int .i64 0, .int .i64 0, .int .i64 0, .int .i64 0] 54)).alloc (.cells #[.string ⟨#[109, 97, 105, 110]⟩, .int .i64 2, .int .i64 0, .int .i64 3, .int .i64 0] 61)).alloc (.cells #[.slice (some ⟨w1.heap.size, 0, none⟩) 3 3, .slice (some ⟨w1.heap.size + 1, 0, none⟩) 1 1, .int .i64 0] 25)) (w1.heap.size + 1) 61 _)
  have O3 := Lib.hid ((((Only.refl (fun _ => False) w1).alloc _).alloc _).alloc _ : Only (fun _ => False) w1 (((w1.alloc (.cells #[.int .i64 37, .int .i64 1, .int .i64 0, .int .i64 0, .int .i64 0, .int .i64 37, .int .i64 1, .int .i64 0, .int .i64 0, .int .i64 0, .int .i64 21, .int .i64 0, .int .i64 0, .int .i64 0, .int .i64 0] 54)).alloc (.cells #[.string ⟨#[109, 97, 105, 110]⟩, .int .i64 2, .int .i64 0, .int .i64 3, .int .i64 0] 61)).alloc (.cells #[.slice (some ⟨w1.heap.size, 0, none⟩) 3 3, .slice (some ⟨w1.heap.size + 1, 0, none⟩) 1 1, .int .i64 0] 25)))
  have hs3 : (((w1.alloc (.cells #[.int .i64 37, .int .i64 1, .int .i64 0, .int .i64 0, .int .i64 0, .int .i64 37, .int .i64 1, .int .i64 0, .int .i64 0, .int .i64 0, .int .i64 21, .int .i64 0, .int .i64 0, .int .i64 0, .int .i64 0] 54)).alloc (.cells #[.string ⟨#[109, 97, 105, 110]⟩, .int .i64 2, .int .i64 0, .int .i64 3, .int .i64 0] 61)).alloc (.cells #[.slice (some ⟨w1.heap.size, 0, none⟩) 3 3, .slice (some ⟨w1.heap.size + 1, 0, none⟩) 1 1, .int .i64 0] 25)).heap.size = w1.heap.size + 3 := by simp
  generalize World.alloc (World.alloc (World.alloc _ _) _) _ = w3 at *
  refine (new_ok w3 (fun x => x < w3.heap.size) (fun _ h => h) (some ⟨w1.heap.size, 0, none⟩) 3 3 (insOf (restL 37)) (some ⟨w1.heap.size + 1, 0, none⟩) 1 1 (mainF 2 3) 0 (IL_blk BI.out (by kernel_rfl) (rest_in 37 ⟨by decide, by decide⟩) (by decide) (by show w1.heap.size < w3.heap.size; omega)) (by decide) (FL_blk BF.out (by rfl) (main_in 2 3 ⟨by decide, by decide⟩ ⟨by decide, by decide⟩) (by decide) (by show w1.heap.size + 1 < w3.heap.size; omega)) in_0 (by decide) none [] 0 ⟨by decide, fun i hi => by cases hi⟩ 2 0 (rest_code (.inl rfl)) (by decide) (by decide) (by decide) (by decide) (by decide) (fun h => by cases h) (fun h => by cases h) (fun _ => rfl) (fun x hx => by cases hx) (by decide)).mono ?_
  rintro e w4 ⟨g, rfl, hM4, hb4⟩
  have hs4 := hb4.size
  have M4 := Lib.hid (show MO w4 (fun x => w3.heap.size ≤ x) g (restK 37) (newQ (restK 37) []) from hM4)
  have O4 := Lib.hid (Only.ofBelow (F := fun x => w3.heap.size ≤ x) hb4)
  clear hM4 hb4 BI BF
  go_wp2_with (go_at_call 18; refine (num_c _ _).mono ?_; rintro e w9 ⟨rfl, hw9⟩; subst hw9)
  refine (run_ri SK.out w9 (fun x => w3.heap.size ≤ x) g _ qa M4.out (fun b hb => Nat.le_trans hs4 hb) 1572863 (by decide) (by decide) RA.out.2.2 RA.out.1 2 1572863 RA.out.2.1).mono ?_
  rintro e w5 ⟨A5, c5, n5, k5, v5, t5, d5, rfl, hn5, M5, O5⟩
  have hs5 := O5.size
  have B6 := Lib.hid (blk_at rfl : Blk (w5.alloc (.cells #[.slice A5 n5 c5, .int .i64 0, .int .i64 k5, .int .i64 v5, .int .i64 1572863, .int .i64 t5, .int .i64 d5] 44)) w5.heap.size 44 _)
  have M6 := Lib.hid ((M5.more (D := fun x => w3.heap.size ≤ x ∧ x ≠ w5.heap.size) (fun b hb hc => ⟨hc, by omega⟩)).keep ((Only.refl (fun _ => False) w5).alloc (.cells #[.slice A5 n5 c5, .int .i64 0, .int .i64 k5, .int .i64 v5, .int .i64 1572863, .int .i64 t5, .int .i64 d5] 44)) (fun _ _ _ h => h))
  have O6 := Lib.hid ((O4.out.trans O5 fun _ _ h => h).alloc (.cells #[.slice A5 n5 c5, .int .i64 0, .int .i64 k5, .int .i64 v5, .int .i64 1572863, .int .i64 t5, .int .i64 d5] 44))
  have hs6 : (w5.alloc (.cells #[.slice A5 n5 c5, .int .i64 0, .int .i64 k5, .int .i64 v5, .int .i64 1572863, .int .i64 t5, .int .i64 d5] 44)).heap.size = w5.heap.size + 1 := by simp
  have hq5 : w3.heap.size ≤ w5.heap.size := by omega
  clear M5 O5 M4 O4
  go_wp2_with fail
  generalize World.alloc _ _ = w6 at *
  generalize w5.heap.size = s5 at *
  refine (run_ri SK.out w6 (fun x => w3.heap.size ≤ x ∧ x ≠ s5) g qa qb M6.out (fun b hb => ⟨by omega, by omega⟩) 1000 (by decide) (by decide) RB.out.2.2 RB.out.1 0 1572864 RB.out.2.1).mono ?_
  rintro e w7 ⟨A7, c7, n7, k7, v7, t7, d7, rfl, hn7, M7, O7⟩
  have hs7 := O7.size
  have B6 := Lib.hid ((B6.out.only O7 (fun h => h.2 rfl)).alloc (.cells #[.slice A7 n7 c7, .int .i64 0, .int .i64 k7, .int .i64 v7, .int .i64 1572864, .int .i64 t7, .int .i64 d7] 44))
  have B8 := Lib.hid (blk_at rfl : Blk (w7.alloc (.cells #[.slice A7 n7 c7, .int .i64 0, .int .i64 k7, .int .i64 v7, .int .i64 1572864, .int .i64 t7, .int .i64 d7] 44)) w7.heap.size 44 _)
  have M8 := Lib.hid ((M7.more (D := fun x => w3.heap.size ≤ x ∧ x ≠ s5 ∧ x ≠ w7.heap.size) (fun b hb hc => ⟨hc.1, hc.2, by omega⟩)).keep ((Only.refl (fun _ => False) w7).alloc (.cells #[.slice A7 n7 c7, .int .i64 0, .int .i64 k7, .int .i64 v7, .int .i64 1572864, .int .i64 t7, .int .i64 d7] 44)) (fun _ _ _ h => h))
  have O8 := Lib.hid ((O6.out.trans O7 fun _ _ h => h.1).alloc (.cells #[.slice A7 n7 c7, .int .i64 0, .int .i64 k7, .int .i64 v7, .int .i64 1572864, .int .i64 t7, .int .i64 d7] 44))
  have hs8 : (w7.alloc (.cells #[.slice A7 n7 c7, .int .i64 0, .int .i64 k7, .int .i64 v7, .int .i64 1572864, .int .i64 t7, .int .i64 d7] 44)).heap.size = w7.heap.size + 1 := by simp
  have hq7 : w3.heap.size ≤ w7.heap.size ∧ s5 < w7.heap.size := by omega
  clear M7 O7 M6 O6
  go_wp2_with fail
  generalize World.alloc _ _ = w8 at *
  generalize w7.heap.size = s7 at *
  refine (step_c SK.out w8 (fun x => w3.heap.size ≤ x ∧ x ≠ s5 ∧ x ≠ s7) g qb M8.out (fun b hb => ⟨by omega, by omega, by omega⟩) RD.out.2.2).mono ?_
  rintro e wa ⟨rfl, Ma, Oa⟩
  have hsa := Oa.size
  have B6 := Lib.hid (B6.out.only Oa (fun h => h.2.1 rfl))
  have B8 := Lib.hid (B8.out.only Oa (fun h => h.2.2 rfl))
  unfold stepTo at Ma
  rw [if_neg (by rw [GB.out]; decide)] at Ma
  rw [GB.out]
  have Ma := Lib.hid Ma
  have Oa := Lib.hid (O8.out.trans Oa fun _ _ h => h.1)
  clear M8 O8
  go_wp2_with fail
  refine (run_ri SK.out wa (fun x => w3.heap.size ≤ x ∧ x ≠ s5 ∧ x ≠ s7) g qb qb Ma.out (fun b hb => ⟨by omega, by omega, by omega⟩) 1099511627776 (by decide) (by decide) RD.out.2.1 RD.out.1 0 1572864 RB.out.2.1).mono ?_
  rintro e wb ⟨A9, c9, n9, k9, v9, t9, d9, rfl, hn9, Mb, Ob⟩
  have hsb := Ob.size
  have B6 := (B6.out.only Ob (fun h => h.2.1 rfl)).alloc (.cells #[.slice A9 n9 c9, .int .i64 0, .int .i64 k9, .int .i64 v9, .int .i64 1572864, .int .i64 t9, .int .i64 d9] 44)
  have B8 := (B8.out.only Ob (fun h => h.2.2 rfl)).alloc (.cells #[.slice A9 n9 c9, .int .i64 0, .int .i64 k9, .int .i64 v9, .int .i64 1572864, .int .i64 t9, .int .i64 d9] 44)
  have B9 := (blk_at rfl : Blk (wb.alloc (.cells #[.slice A9 n9 c9, .int .i64 0, .int .i64 k9, .int .i64 v9, .int .i64 1572864, .int .i64 t9, .int .i64 d9] 44)) wb.heap.size 44 #[.slice A9 n9 c9, .int .i64 0, .int .i64 k9, .int .i64 v9, .int .i64 1572864, .int .i64 t9, .int .i64 d9])
  have OB := Lib.hid ((Oa.out.trans Ob fun _ _ h => h.1).alloc (.cells #[.slice A9 n9 c9, .int .i64 0, .int .i64 k9, .int .i64 v9, .int .i64 1572864, .int .i64 t9, .int .i64 d9] 44))
  have x0 := B6.cell 0
  have x1 := B6.cell 1
  have x4 := B6.cell 4
  have y0 := B8.cell 0
  have y1 := B8.cell 1
  have y4 := B8.cell 4
  have z1 := B9.cell 1
  have z4 := B9.cell 4
  simp only [List.getElem?_toArray, List.getElem?_cons_zero, List.getElem?_cons_succ] at x0 x1 x4 y0 y1 y4 z1 z4
  clear Mb Ob Ma Oa B6 B8 B9
  have FA := Lib.hid (((Only.ofBelow (F := fun _ => False) hb1.out).trans (O3.out) fun _ _ h => h).trans (G := fun x => w3.heap.size ≤ x) OB.out fun b h1 h2 => by have h3 : w3.heap.size ≤ b := h2; have := hb1.out.size; omega)
  have hsw : w.heap.size ≤ (wb.alloc (.cells #[.slice A9 n9 c9, .int .i64 0, .int .i64 k9, .int .i64 v9, .int .i64 1572864, .int .i64 t9, .int .i64 d9] 44)).heap.size := FA.out.size
  clear hs4 hs5 hs6 hs7 hs8 hsa hsb hq5 hq7 hs3 hn9 O3 hb1 OB
  go_wp2_with fail
  refine (full_c0 _).mono ?_
  rintro e wc0 ⟨rfl, hc0⟩
  have hc0 := Lib.hid hc0
  go_wp2_with fail
  refine (full_c1 _).mono ?_
  rintro e wc1 ⟨rfl, hc1⟩
  have hc1 := Lib.hid hc1
  go_wp2_with fail
  refine (full_c2 _).mono ?_
  rintro e wc2 ⟨rfl, hc2⟩
  have hc2 := Lib.hid hc2
  go_wp2_with fail
  refine (full_c3 _).mono ?_
  rintro e wc3 ⟨rfl, hc3⟩
  have hc3 := Lib.hid hc3
  go_wp2_with fail
  go_ret
  exact ⟨rfl, (((((FA.out.trans (Only.ofBelow (F := fun _ => False) hc0.out) fun _ _ h => h).trans (Only.ofBelow (F := fun _ => False) hc1.out) fun _ _ h => h).trans (Only.ofBelow (F := fun _ => False) hc2.out) fun _ _ h => h).trans (Only.ofBelow (F := fun _ => False) hc3.out) fun _ _ h => h).toBelow (Nat.le_refl _) fun _ _ h => h)⟩

set_option maxRecDepth 100000 in
set_option maxHeartbeats 8000000 in
theorem rests_1 (w : World) (n kind : Int) (hn : bits .and .i64 n 63 = 0) (hk : bits .and .i64 kind 1 = 1) : Calls Try.prog 10 #[.int .i64 n, .int .i64 kind] w fun e w' => e = .returned (.bool true) ∧ Below w.heap.size w w' := by
  have SK := Lib.hid (rest_sound (op := 38) (.inr rfl))
  obtain ⟨qa, hqa, ra, ma⟩ : ∃ qa, runN (restK 38) (1572863 : Int).toNat (newQ (restK 38) []) = qa ∧ RI qa 2 1048576 1572863 ∧ (newQ (restK 38) []).steps + (madeN (restK 38) (1572863 : Int).toNat (newQ (restK 38) []) : Int) < 4000000000000 := by
    have ht : (1572863 : Int).toNat = 1572863 := rfl
    rw [ht]
    refine ⟨_, rfl, rest_a (.inr rfl), ?_⟩
    have := madeN_le (restK 38) 1572863 (newQ (restK 38) [])
    rw [newQ_steps]; omega
  obtain ⟨qb, hqb, rb, mb⟩ : ∃ qb, runN (restK 38) (1000 : Int).toNat qa = qb ∧ RI qb 0 1048576 1572864 ∧ qa.steps + (madeN (restK 38) (1000 : Int).toNat qa : Int) < 4000000000000 := by
    have ht : (1000 : Int).toNat = 1000 := rfl
    rw [ht]
    have h := rest_b (op := 38) (.inr rfl) ra 999
    have e : 999 + 1 = 1000 := rfl
    rw [e] at h
    refine ⟨_, rfl, h.1, ?_⟩
    rw [h.2, ra.steps]; decide
  have gb : goes (restK 38) qb = false := rest_full (op := 38) (.inr rfl) rb
  have hqd : runN (restK 38) (1099511627776 : Int).toNat qb = qb := runN_rest _ _ gb _
  have md : qb.steps + (madeN (restK 38) (1099511627776 : Int).toNat qb : Int) < 4000000000000 := by rw [madeN_no gb, rb.steps]; decide
  have mst : qb.steps < 4000000000000 := by rw [rb.steps]; decide
  have RA := Lib.hid (And.intro hqa (And.intro ra ma))
  have RB := Lib.hid (And.intro hqb (And.intro rb mb))
  have RD := Lib.hid (And.intro hqd (And.intro md mst))
  have GB := Lib.hid gb
  clear hqa ra ma hqb rb mb gb hqd md mst
  go_enter Try.func10, Try.ntmps10
  go_wp2_with fail
  refine (alive_c w).mono ?_
  rintro e w1 ⟨rfl, hb1⟩
  have hb1 := Lib.hid hb1
  go_wp2_with fail
  have BI := Lib.hid (((blk_at rfl).alloc _).alloc _ : Blk (((w1.alloc (.cells #[.int .i64 38, .int .i64 1, .int .i64 0, .int .i64 0, .int .i64 0, .int .i64 38, .int .i64 1, .int .i64 0, .int .i64 0, .int .i64 0, .int .i64 21, .int .i64 0, .int .i64 0, .int .i64 0, .int .i64 0] 54)).alloc (.cells #[.string ⟨#[109, 97, 105, 110]⟩, .int .i64 2, .int .i64 0, .int .i64 3, .int .i64 0] 61)).alloc (.cells #[.slice (some ⟨w1.heap.size, 0, none⟩) 3 3, .slice (some ⟨w1.heap.size + 1, 0, none⟩) 1 1, .int .i64 0] 25)) w1.heap.size 54 _)
  have BF := Lib.hid ((blk_at (by simp)).alloc _ : Blk (((w1.alloc (.cells #[.int .i64 38, .int .i64 1, .int .i64 0, .int .i64 0, .int .i64 0, .int .i64 38, .int .i64 1, .int .i64 0, .int .i64 0, .int .i64 0, .int .i64 21, .int .i64 0, .int .i64 0, .int .i64 0, .int .i64 0] 54)).alloc (.cells #[.string ⟨#[109, 97, 105, 110]⟩, .int .i64 2, .int .i64 0, .int .i64 3, .int .i64 0] 61)).alloc (.cells #[.slice (some ⟨w1.heap.size, 0, none⟩) 3 3, .slice (some ⟨w1.heap.size + 1, 0, none⟩) 1 1, .int .i64 0] 25)) (w1.heap.size + 1) 61 _)
  have O3 := Lib.hid ((((Only.refl (fun _ => False) w1).alloc _).alloc _).alloc _ : Only (fun _ => False) w1 (((w1.alloc (.cells #[.int .i64 38, .int .i64 1, .int .i64 0, .int .i64 0, .int .i64 0, .int .i64 38, .int .i64 1, .int .i64 0, .int .i64 0, .int .i64 0, .int .i64 21, .int .i64 0, .int .i64 0, .int .i64 0, .int .i64 0] 54)).alloc (.cells #[.string ⟨#[109, 97, 105, 110]⟩, .int .i64 2, .int .i64 0, .int .i64 3, .int .i64 0] 61)).alloc (.cells #[.slice (some ⟨w1.heap.size, 0, none⟩) 3 3, .slice (some ⟨w1.heap.size + 1, 0, none⟩) 1 1, .int .i64 0] 25)))
  have hs3 : (((w1.alloc (.cells #[.int .i64 38, .int .i64 1, .int .i64 0, .int .i64 0, .int .i64 0, .int .i64 38, .int .i64 1, .int .i64 0, .int .i64 0, .int .i64 0, .int .i64 21, .int .i64 0, .int .i64 0, .int .i64 0, .int .i64 0] 54)).alloc (.cells #[.string ⟨#[109, 97, 105, 110]⟩, .int .i64 2, .int .i64 0, .int .i64 3, .int .i64 0] 61)).alloc (.cells #[.slice (some ⟨w1.heap.size, 0, none⟩) 3 3, .slice (some ⟨w1.heap.size + 1, 0, none⟩) 1 1, .int .i64 0] 25)).heap.size = w1.heap.size + 3 := by simp
  generalize World.alloc (World.alloc (World.alloc _ _) _) _ = w3 at *
  refine (new_ok w3 (fun x => x < w3.heap.size) (fun _ h => h) (some ⟨w1.heap.size, 0, none⟩) 3 3 (insOf (restL 38)) (some ⟨w1.heap.size + 1, 0, none⟩) 1 1 (mainF 2 3) 0 (IL_blk BI.out (by kernel_rfl) (rest_in 38 ⟨by decide, by decide⟩) (by decide) (by show w1.heap.size < w3.heap.size; omega)) (by decide) (FL_blk BF.out (by rfl) (main_in 2 3 ⟨by decide, by decide⟩ ⟨by decide, by decide⟩) (by decide) (by show w1.heap.size + 1 < w3.heap.size; omega)) in_0 (by decide) none [] 0 ⟨by decide, fun i hi => by cases hi⟩ 2 0 (rest_code (.inr rfl)) (by decide) (by decide) (by decide) (by decide) (by decide) (fun h => by cases h) (fun h => by cases h) (fun _ => rfl) (fun x hx => by cases hx) (by decide)).mono ?_
  rintro e w4 ⟨g, rfl, hM4, hb4⟩
  have hs4 := hb4.size
  have M4 := Lib.hid (show MO w4 (fun x => w3.heap.size ≤ x) g (restK 38) (newQ (restK 38) []) from hM4)
  have O4 := Lib.hid (Only.ofBelow (F := fun x => w3.heap.size ≤ x) hb4)
  clear hM4 hb4 BI BF
  go_wp2_with (go_at_call 18; refine (num_c _ _).mono ?_; rintro e w9 ⟨rfl, hw9⟩; subst hw9)
  refine (run_ri SK.out w9 (fun x => w3.heap.size ≤ x) g _ qa M4.out (fun b hb => Nat.le_trans hs4 hb) 1572863 (by decide) (by decide) RA.out.2.2 RA.out.1 2 1572863 RA.out.2.1).mono ?_
  rintro e w5 ⟨A5, c5, n5, k5, v5, t5, d5, rfl, hn5, M5, O5⟩
  have hs5 := O5.size
  have B6 := Lib.hid (blk_at rfl : Blk (w5.alloc (.cells #[.slice A5 n5 c5, .int .i64 0, .int .i64 k5, .int .i64 v5, .int .i64 1572863, .int .i64 t5, .int .i64 d5] 44)) w5.heap.size 44 _)
  have M6 := Lib.hid ((M5.more (D := fun x => w3.heap.size ≤ x ∧ x ≠ w5.heap.size) (fun b hb hc => ⟨hc, by omega⟩)).keep ((Only.refl (fun _ => False) w5).alloc (.cells #[.slice A5 n5 c5, .int .i64 0, .int .i64 k5, .int .i64 v5, .int .i64 1572863, .int .i64 t5, .int .i64 d5] 44)) (fun _ _ _ h => h))
  have O6 := Lib.hid ((O4.out.trans O5 fun _ _ h => h).alloc (.cells #[.slice A5 n5 c5, .int .i64 0, .int .i64 k5, .int .i64 v5, .int .i64 1572863, .int .i64 t5, .int .i64 d5] 44))
  have hs6 : (w5.alloc (.cells #[.slice A5 n5 c5, .int .i64 0, .int .i64 k5, .int .i64 v5, .int .i64 1572863, .int .i64 t5, .int .i64 d5] 44)).heap.size = w5.heap.size + 1 := by simp
  have hq5 : w3.heap.size ≤ w5.heap.size := by omega
  clear M5 O5 M4 O4
  go_wp2_with fail
  generalize World.alloc _ _ = w6 at *
  generalize w5.heap.size = s5 at *
  refine (run_ri SK.out w6 (fun x => w3.heap.size ≤ x ∧ x ≠ s5) g qa qb M6.out (fun b hb => ⟨by omega, by omega⟩) 1000 (by decide) (by decide) RB.out.2.2 RB.out.1 0 1572864 RB.out.2.1).mono ?_
  rintro e w7 ⟨A7, c7, n7, k7, v7, t7, d7, rfl, hn7, M7, O7⟩
  have hs7 := O7.size
  have B6 := Lib.hid ((B6.out.only O7 (fun h => h.2 rfl)).alloc (.cells #[.slice A7 n7 c7, .int .i64 0, .int .i64 k7, .int .i64 v7, .int .i64 1572864, .int .i64 t7, .int .i64 d7] 44))
  have B8 := Lib.hid (blk_at rfl : Blk (w7.alloc (.cells #[.slice A7 n7 c7, .int .i64 0, .int .i64 k7, .int .i64 v7, .int .i64 1572864, .int .i64 t7, .int .i64 d7] 44)) w7.heap.size 44 _)
  have M8 := Lib.hid ((M7.more (D := fun x => w3.heap.size ≤ x ∧ x ≠ s5 ∧ x ≠ w7.heap.size) (fun b hb hc => ⟨hc.1, hc.2, by omega⟩)).keep ((Only.refl (fun _ => False) w7).alloc (.cells #[.slice A7 n7 c7, .int .i64 0, .int .i64 k7, .int .i64 v7, .int .i64 1572864, .int .i64 t7, .int .i64 d7] 44)) (fun _ _ _ h => h))
  have O8 := Lib.hid ((O6.out.trans O7 fun _ _ h => h.1).alloc (.cells #[.slice A7 n7 c7, .int .i64 0, .int .i64 k7, .int .i64 v7, .int .i64 1572864, .int .i64 t7, .int .i64 d7] 44))
  have hs8 : (w7.alloc (.cells #[.slice A7 n7 c7, .int .i64 0, .int .i64 k7, .int .i64 v7, .int .i64 1572864, .int .i64 t7, .int .i64 d7] 44)).heap.size = w7.heap.size + 1 := by simp
  have hq7 : w3.heap.size ≤ w7.heap.size ∧ s5 < w7.heap.size := by omega
  clear M7 O7 M6 O6
  go_wp2_with fail
  generalize World.alloc _ _ = w8 at *
  generalize w7.heap.size = s7 at *
  refine (step_c SK.out w8 (fun x => w3.heap.size ≤ x ∧ x ≠ s5 ∧ x ≠ s7) g qb M8.out (fun b hb => ⟨by omega, by omega, by omega⟩) RD.out.2.2).mono ?_
  rintro e wa ⟨rfl, Ma, Oa⟩
  have hsa := Oa.size
  have B6 := Lib.hid (B6.out.only Oa (fun h => h.2.1 rfl))
  have B8 := Lib.hid (B8.out.only Oa (fun h => h.2.2 rfl))
  unfold stepTo at Ma
  rw [if_neg (by rw [GB.out]; decide)] at Ma
  rw [GB.out]
  have Ma := Lib.hid Ma
  have Oa := Lib.hid (O8.out.trans Oa fun _ _ h => h.1)
  clear M8 O8
  go_wp2_with fail
  refine (run_ri SK.out wa (fun x => w3.heap.size ≤ x ∧ x ≠ s5 ∧ x ≠ s7) g qb qb Ma.out (fun b hb => ⟨by omega, by omega, by omega⟩) 1099511627776 (by decide) (by decide) RD.out.2.1 RD.out.1 0 1572864 RB.out.2.1).mono ?_
  rintro e wb ⟨A9, c9, n9, k9, v9, t9, d9, rfl, hn9, Mb, Ob⟩
  have hsb := Ob.size
  have B6 := (B6.out.only Ob (fun h => h.2.1 rfl)).alloc (.cells #[.slice A9 n9 c9, .int .i64 0, .int .i64 k9, .int .i64 v9, .int .i64 1572864, .int .i64 t9, .int .i64 d9] 44)
  have B8 := (B8.out.only Ob (fun h => h.2.2 rfl)).alloc (.cells #[.slice A9 n9 c9, .int .i64 0, .int .i64 k9, .int .i64 v9, .int .i64 1572864, .int .i64 t9, .int .i64 d9] 44)
  have B9 := (blk_at rfl : Blk (wb.alloc (.cells #[.slice A9 n9 c9, .int .i64 0, .int .i64 k9, .int .i64 v9, .int .i64 1572864, .int .i64 t9, .int .i64 d9] 44)) wb.heap.size 44 #[.slice A9 n9 c9, .int .i64 0, .int .i64 k9, .int .i64 v9, .int .i64 1572864, .int .i64 t9, .int .i64 d9])
  have OB := Lib.hid ((Oa.out.trans Ob fun _ _ h => h.1).alloc (.cells #[.slice A9 n9 c9, .int .i64 0, .int .i64 k9, .int .i64 v9, .int .i64 1572864, .int .i64 t9, .int .i64 d9] 44))
  have x0 := B6.cell 0
  have x1 := B6.cell 1
  have x4 := B6.cell 4
  have y0 := B8.cell 0
  have y1 := B8.cell 1
  have y4 := B8.cell 4
  have z1 := B9.cell 1
  have z4 := B9.cell 4
  simp only [List.getElem?_toArray, List.getElem?_cons_zero, List.getElem?_cons_succ] at x0 x1 x4 y0 y1 y4 z1 z4
  clear Mb Ob Ma Oa B6 B8 B9
  have FA := Lib.hid (((Only.ofBelow (F := fun _ => False) hb1.out).trans (O3.out) fun _ _ h => h).trans (G := fun x => w3.heap.size ≤ x) OB.out fun b h1 h2 => by have h3 : w3.heap.size ≤ b := h2; have := hb1.out.size; omega)
  have hsw : w.heap.size ≤ (wb.alloc (.cells #[.slice A9 n9 c9, .int .i64 0, .int .i64 k9, .int .i64 v9, .int .i64 1572864, .int .i64 t9, .int .i64 d9] 44)).heap.size := FA.out.size
  clear hs4 hs5 hs6 hs7 hs8 hsa hsb hq5 hq7 hs3 hn9 O3 hb1 OB
  go_wp2_with fail
  refine (full_c0 _).mono ?_
  rintro e wc0 ⟨rfl, hc0⟩
  have hc0 := Lib.hid hc0
  go_wp2_with fail
  refine (full_c1 _).mono ?_
  rintro e wc1 ⟨rfl, hc1⟩
  have hc1 := Lib.hid hc1
  go_wp2_with fail
  refine (full_c2 _).mono ?_
  rintro e wc2 ⟨rfl, hc2⟩
  have hc2 := Lib.hid hc2
  go_wp2_with fail
  refine (full_c3 _).mono ?_
  rintro e wc3 ⟨rfl, hc3⟩
  have hc3 := Lib.hid hc3
  go_wp2_with fail
  go_ret
  exact ⟨rfl, (((((FA.out.trans (Only.ofBelow (F := fun _ => False) hc0.out) fun _ _ h => h).trans (Only.ofBelow (F := fun _ => False) hc1.out) fun _ _ h => h).trans (Only.ofBelow (F := fun _ => False) hc2.out) fun _ _ h => h).trans (Only.ofBelow (F := fun _ => False) hc3.out) fun _ _ h => h).toBelow (Nat.le_refl _) fun _ _ h => h)⟩

set_option maxRecDepth 100000 in
set_option maxHeartbeats 8000000 in
theorem r16rests_c (w : World) (n kind : Int) : Calls Try.prog 10 #[.int .i64 n, .int .i64 kind] w fun e w' => e = .returned (.bool true) ∧ Below w.heap.size w w' := by
  obtain ⟨o0, o1⟩ := and_range kind 1 (by decide)
  by_cases hn : bits .and .i64 n 63 = 0
  · have ho : bits .and .i64 kind 1 = 0 ∨ bits .and .i64 kind 1 = 1 := by
      have e : ((1 : Nat) : Int) = 1 := rfl
      rw [e] at o0 o1
      omega
    rcases ho with h | h
    · exact rests_0 w n kind hn h
    · exact rests_1 w n kind hn h
  · clear o0 o1
    go_enter Try.func10, Try.ntmps10
    go_wp2_with fail
    refine (alive_c w).mono ?_
    rintro e w1 ⟨rfl, hb1⟩
    have hb1 := Lib.hid hb1
    go_wp2_with fail
    go_ret
    exact ⟨rfl, hb1.out⟩

end Go.Proofs.Ytkjfbojmkkdgoaa
