/- r16's machine: elements of blocks. -/
import Derived.Test.YtkjfbojmkkdgoaaX11
set_option linter.unusedVariables false
set_option linter.unusedSimpArgs false
namespace Go.Proofs.Ytkjfbojmkkdgoaa
open Go.RowKit
attribute [local go_sem ↓] Go.wp_at_zero Go.wp_at_succ
set_option maxRecDepth 100000 in
set_option maxHeartbeats 8000000 in
theorem mldx_no (w : World) (C : Nat → Prop) (g : Nat) (K : MK) (q : MQ) (c : Nat) (h : MAt w C g K q c) (op : Int) (a b d : Nat) (n : Int) (k1 k2 : Int) (hE : ∀ w1, MAt w1 C g K q c → Calls Try.prog 105 #[.pointer (some ⟨g, 0, none⟩), insR op a b d n] w1 (Stops w1 C g K q c k1 k2 0)) : Calls Try.prog 67 #[.pointer (some ⟨g, 0, none⟩), insR op a b d n] w (Stops w C g K q c k1 k2 0) := by
  obtain ⟨z, p, h⟩ := h
  obtain ⟨w1, s, hw, hs, M, O, i0, i1, i2, i3, i4⟩ := h.boxed op a b d n
  have hl := M.lt
  have zz := M.frozen
  have EC := Lib.hid (hE w1 ⟨z, p, M⟩)
  have ON := Lib.hid O
  clear h M O hE
  unfold insR at *
  go_enter Try.func67, Try.ntmps67
  go_wp2_with fail
  rw [← hw, ← hs]
  clear hw hs
  refine EC.out.mono ?_
  rintro e w3 ⟨rfl, M3, O3⟩
  go_wp2_with fail
  exact ⟨rfl, rfl, M3, ON.out.then_ O3⟩
set_option maxRecDepth 100000 in
set_option maxHeartbeats 8000000 in
theorem mstx_no (w : World) (C : Nat → Prop) (g : Nat) (K : MK) (q : MQ) (c : Nat) (h : MAt w C g K q c) (op : Int) (a b d : Nat) (n : Int) (k1 k2 : Int) (hE : ∀ w1, MAt w1 C g K q c → Calls Try.prog 105 #[.pointer (some ⟨g, 0, none⟩), insR op a b d n] w1 (Stops w1 C g K q c k1 k2 0)) : Calls Try.prog 68 #[.pointer (some ⟨g, 0, none⟩), insR op a b d n] w (Stops w C g K q c k1 k2 0) := by
  obtain ⟨z, p, h⟩ := h
  obtain ⟨w1, s, hw, hs, M, O, i0, i1, i2, i3, i4⟩ := h.boxed op a b d n
  have hl := M.lt
  have zz := M.frozen
  have EC := Lib.hid (hE w1 ⟨z, p, M⟩)
  have ON := Lib.hid O
  clear h M O hE
  unfold insR at *
  go_enter Try.func68, Try.ntmps68
  go_wp2_with fail
  rw [← hw, ← hs]
  clear hw hs
  refine EC.out.mono ?_
  rintro e w3 ⟨rfl, M3, O3⟩
  go_wp2_with fail
  exact ⟨rfl, rfl, M3, ON.out.then_ O3⟩
set_option maxRecDepth 100000 in
set_option maxHeartbeats 8000000 in
theorem mldx_ok (w : World) (C : Nat → Prop) (g : Nat) (K : MK) (q : MQ) (c : Nat) (h : MAt w C g K q c) (op : Int) (a b d : Nat) (n : Int) (ha : a < 16) (hb : b < 16) (hd : d < 16) (hrb : i64in (q.regs b)) (hE : ∀ w1 D, MAt w1 D g K q c → Calls Try.prog 105 #[.pointer (some ⟨g, 0, none⟩), insR op a b d n] w1 (Did w1 D g K q c)) : Calls Try.prog 67 #[.pointer (some ⟨g, 0, none⟩), insR op a b d n] w (Did w C g K (q.reg a (q.hp.getA (q.regs b) (q.regs d))) c) := by
  have la : (a : Int) < 16 := by omega
  have lb : (b : Int) < 16 := by omega
  have ld : (d : Int) < 16 := by omega
  obtain ⟨z0, p, h⟩ := h
  obtain ⟨w1, s, z, hw, hs, ls, M, O, i0, i1, i2, i3, i4⟩ := h.boxed2 op a b d n
  have hl := M.lt
  have zz := M.frozen
  have DD : Hid (Did w C g K (q.reg a (q.hp.getA (q.regs b) (q.regs d))) c = fun e w' => e = .returned (.tuple #[]) ∧ MAt w' C g K (q.reg a (q.hp.getA (q.regs b) (q.regs d))) c ∧ Only C w w') := rfl
  rw [DD.out]
  clear DD
  obtain ⟨q2, hq2⟩ : ∃ q2, q2 = q.reg a (q.hp.getA (q.regs b) (q.regs d)) := ⟨_, rfl⟩
  rw [← hq2]
  have HQ := Lib.hid hq2
  clear hq2
  have kd0 := M.kr d hd
  have kb0 := M.kr b hb
  have EC := Lib.hid (hE w1 (fun b => C b ∧ b ≠ s) ⟨z, p, M⟩)
  have hC1 := M.cg
  have hgs : g ≠ s := M.cg.2
  have ON := Lib.hid O
  clear kd0 kb0 h M O hE
  unfold insR at *
  go_enter Try.func67, Try.ntmps67
  go_wp2_with fail
  rw [← hw, ← hs]
  clear hw hs
  refine EC.out.mono ?_
  rintro e w2 ⟨rfl, ⟨z2, p2, M2⟩, O2⟩
  have j1 := (O2.cell (b := s) (o := 1) ls (fun hb => hb.2 rfl)).trans i1
  have j2 := (O2.cell (b := s) (o := 2) ls (fun hb => hb.2 rfl)).trans i2
  have j3 := (O2.cell (b := s) (o := 3) ls (fun hb => hb.2 rfl)).trans i3
  have ka := M2.kr a ha
  have kb := M2.kr b hb
  have kd := M2.kr d hd
  have k63 := M2.k63
  have zz2 := M2.frozen
  have O3 := ON.out.trans O2 fun b _ hb => hb.1
  have ls2 : s < w2.heap.size := Nat.lt_of_lt_of_le ls O2.size
  clear i0 i1 i2 i3 i4 zz hl EC ON
  have GC := Lib.hid (hget_c w2.drew _ p2.hp c q.hp (q.regs b) (q.regs d) (M2.ha.drewN 1) M2.hok hrb)
  have MH := Lib.hid (show MAt ((w2.setCell ⟨g, 45 + a, none⟩ (.int .i64 (q.hp.getA (q.regs b) (q.regs d)))).drew) C g K q2 c from HQ.out ▸ MAt.more ⟨z2, p2, (M2.sreg a ha (q.hp.getA (q.regs b) (q.regs d))).drew⟩ fun b _ hb => hb.1)
  have OH := Lib.hid ((O3.cells (p := ⟨g, 45 + a, none⟩) hC1.1 (.int .i64 (q.hp.getA (q.regs b) (q.regs d)))).drew)
  clear M2 O2 O3 hrb HQ
  generalize q.hp.getA (q.regs b) (q.regs d) = y at *
  generalize q.hp.has (q.regs b) (q.regs d) = yy at *
  generalize q.regs (a : Int) = va at *
  generalize q.regs (b : Int) = vb at *
  generalize q.regs (d : Int) = vd at *
  go_wp2_with fail
  refine wp_region_held_drew (S := (fun w' => w'.cell? ⟨s, 1, none⟩ = some (.int .i64 a) ∧ w'.cell? ⟨s, 2, none⟩ = some (.int .i64 b) ∧ w'.cell? ⟨s, 3, none⟩ = some (.int .i64 d) ∧ w'.cell? ⟨g, 63, none⟩ = some (.pointer (some ⟨p2.hp, 0, none⟩)))) (by kernel_rfl) (⟨j1, j2, j3, k63⟩) (fun hHeld => ?_)
  refine wpAnyH_take (i := 0) (v := ?_) (by simp only [List.getElem?_toArray, List.getElem?_cons_succ, List.getElem?_cons_zero]; rfl) (by kernel_rfl) (by kernel_rfl) (by kernel_rfl) (by exact fun _ _ _ h => h) (Or.inl ⟨by rfl, ?_⟩) (by assumption) ?_
  rotate_left
  · (intro w hSw; (try dsimp only at hSw); go_simp; with_reducible rfl)
  try simp only [Act.put, List.setIfInBounds_toArray, List.set_cons_zero, List.set_cons_succ]
  refine wpAnyH_take (i := 1) (v := ?_) (by simp only [List.getElem?_toArray, List.getElem?_cons_succ, List.getElem?_cons_zero]; rfl) (by kernel_rfl) (by kernel_rfl) (by kernel_rfl) (by exact fun _ _ _ h => h) (Or.inl ⟨by rfl, ?_⟩) (by assumption) ?_
  rotate_left
  · (intro w hSw; (try dsimp only at hSw); go_simp; with_reducible rfl)
  try simp only [Act.put, List.setIfInBounds_toArray, List.set_cons_zero, List.set_cons_succ]
  refine wpAnyH_take (i := 2) (v := ?_) (by simp only [List.getElem?_toArray, List.getElem?_cons_succ, List.getElem?_cons_zero]; rfl) (by kernel_rfl) (by kernel_rfl) (by kernel_rfl) (by exact fun _ _ _ h => h) (Or.inl ⟨by rfl, ?_⟩) (by assumption) ?_
  rotate_left
  · (intro w hSw; (try dsimp only at hSw); go_simp; with_reducible rfl)
  try simp only [Act.put, List.setIfInBounds_toArray, List.set_cons_zero, List.set_cons_succ]
  refine wpAnyH_take (i := 3) (v := ?_) (by simp only [List.getElem?_toArray, List.getElem?_cons_succ, List.getElem?_cons_zero]; rfl) (by kernel_rfl) (by kernel_rfl) (by kernel_rfl) (by exact fun _ _ _ h => h) (Or.inl ⟨by rfl, ?_⟩) (by assumption) ?_
  rotate_left
  · (intro w hSw; (try dsimp only at hSw); go_simp; with_reducible rfl)
  try simp only [Act.put, List.setIfInBounds_toArray, List.set_cons_zero, List.set_cons_succ]
  refine wpAnyH_take (i := 4) (v := ?_) (by simp only [List.getElem?_toArray, List.getElem?_cons_succ, List.getElem?_cons_zero]; rfl) (by kernel_rfl) (by kernel_rfl) (by kernel_rfl) (by exact fun _ _ _ h => h) (Or.inl ⟨by rfl, ?_⟩) (by assumption) ?_
  rotate_left
  · (intro w hSw; (try dsimp only at hSw); go_simp; with_reducible rfl)
  try simp only [Act.put, List.setIfInBounds_toArray, List.set_cons_zero, List.set_cons_succ]
  refine wpAnyH_take (i := 5) (v := ?_) (by simp only [List.getElem?_toArray, List.getElem?_cons_succ, List.getElem?_cons_zero]; rfl) (by kernel_rfl) (by kernel_rfl) (by kernel_rfl) (by exact fun _ _ _ h => h) (Or.inl ⟨by rfl, ?_⟩) (by assumption) ?_
  rotate_left
  · (intro w hSw; (try dsimp only at hSw); go_simp; with_reducible rfl)
  try simp only [Act.put, List.setIfInBounds_toArray, List.set_cons_zero, List.set_cons_succ]
  refine wpAnyH_take (i := 6) (v := ?_) (by simp only [List.getElem?_toArray, List.getElem?_cons_succ, List.getElem?_cons_zero]; rfl) (by kernel_rfl) (by kernel_rfl) (by kernel_rfl) (by exact fun _ _ _ h => h) (Or.inl ⟨by rfl, ?_⟩) (by assumption) ?_
  rotate_left
  · (intro w hSw; (try dsimp only at hSw); go_simp; with_reducible rfl)
  try simp only [Act.put, List.setIfInBounds_toArray, List.set_cons_zero, List.set_cons_succ]
  refine wpAnyH_take (i := 7) (v := ?_) (by simp only [List.getElem?_toArray, List.getElem?_cons_succ, List.getElem?_cons_zero]; rfl) (by kernel_rfl) (by kernel_rfl) (by kernel_rfl) (by exact fun _ _ _ h => h) (Or.inl ⟨by rfl, ?_⟩) (by assumption) ?_
  rotate_left
  · (intro w hSw; (try dsimp only at hSw); go_simp; with_reducible rfl)
  try simp only [Act.put, List.setIfInBounds_toArray, List.set_cons_zero, List.set_cons_succ]
  refine wpAnyH_take (i := 8) (v := ?_) (by simp only [List.getElem?_toArray, List.getElem?_cons_succ, List.getElem?_cons_zero]; rfl) (by kernel_rfl) (by kernel_rfl) (by kernel_rfl) (by exact fun _ _ _ h => h) (Or.inl ⟨by rfl, ?_⟩) (by assumption) ?_
  rotate_left
  · (intro w hSw; (try dsimp only at hSw); go_simp; with_reducible rfl)
  try simp only [Act.put, List.setIfInBounds_toArray, List.set_cons_zero, List.set_cons_succ]
  refine wpAnyH_take (i := 9) (v := ?_) (by simp only [List.getElem?_toArray, List.getElem?_cons_succ, List.getElem?_cons_zero]; rfl) (by kernel_rfl) (by kernel_rfl) (by kernel_rfl) (by exact fun _ _ _ h => h) (Or.inl ⟨by rfl, ?_⟩) (by assumption) ?_
  rotate_left
  · (intro w hSw; (try dsimp only at hSw); go_simp; with_reducible rfl)
  try simp only [Act.put, List.setIfInBounds_toArray, List.set_cons_zero, List.set_cons_succ]
  refine wpAnyH_take (i := 10) (v := ?_) (by simp only [List.getElem?_toArray, List.getElem?_cons_succ, List.getElem?_cons_zero]; rfl) (by kernel_rfl) (by kernel_rfl) (by kernel_rfl) (by exact fun _ _ _ h => h) (Or.inl ⟨by rfl, ?_⟩) (by assumption) ?_
  rotate_left
  · (intro w hSw; (try dsimp only at hSw); go_simp; with_reducible rfl)
  try simp only [Act.put, List.setIfInBounds_toArray, List.set_cons_zero, List.set_cons_succ]
  refine wpAnyH_take (i := 11) (v := ?_) (by simp only [List.getElem?_toArray, List.getElem?_cons_succ, List.getElem?_cons_zero]; rfl) (by kernel_rfl) (by kernel_rfl) (by kernel_rfl) (by exact fun _ _ _ h => h) (Or.inl ⟨by rfl, ?_⟩) (by assumption) ?_
  rotate_left
  · (intro w hSw; (try dsimp only at hSw); go_simp; with_reducible rfl)
  try simp only [Act.put, List.setIfInBounds_toArray, List.set_cons_zero, List.set_cons_succ]
  refine wpAnyH_take (i := 12) (v := ?_) (by simp only [List.getElem?_toArray, List.getElem?_cons_succ, List.getElem?_cons_zero]; rfl) (by kernel_rfl) (by kernel_rfl) (by kernel_rfl) (by exact fun _ _ _ h => h) (Or.inl ⟨by rfl, ?_⟩) (by assumption) ?_
  rotate_left
  · (intro w hSw; (try dsimp only at hSw); go_simp; with_reducible rfl)
  try simp only [Act.put, List.setIfInBounds_toArray, List.set_cons_zero, List.set_cons_succ]
  refine wpAnyH_take (i := 14) (v := ?_) (by simp only [List.getElem?_toArray, List.getElem?_cons_succ, List.getElem?_cons_zero]; rfl) (by kernel_rfl) (by kernel_rfl) (by kernel_rfl) (by exact fun _ _ _ h => h) (Or.inl ⟨by rfl, ?_⟩) (by assumption) ?_
  rotate_left
  · (intro w hSw; (try dsimp only at hSw); go_simp; with_reducible rfl)
  try simp only [Act.put, List.setIfInBounds_toArray, List.set_cons_zero, List.set_cons_succ]
  refine wpAnyH_take (i := 15) (v := ?_) (by simp only [List.getElem?_toArray, List.getElem?_cons_succ, List.getElem?_cons_zero]; rfl) (by kernel_rfl) (by kernel_rfl) (by kernel_rfl) (by exact fun _ _ _ h => h) (Or.inl ⟨by rfl, ?_⟩) (by assumption) ?_
  rotate_left
  · (intro w hSw; (try dsimp only at hSw); go_simp; with_reducible rfl)
  try simp only [Act.put, List.setIfInBounds_toArray, List.set_cons_zero, List.set_cons_succ]
  refine wpAnyH_take (i := 16) (v := ?_) (by simp only [List.getElem?_toArray, List.getElem?_cons_succ, List.getElem?_cons_zero]; rfl) (by kernel_rfl) (by kernel_rfl) (by kernel_rfl) (by exact fun _ _ _ h => h) (Or.inl ⟨by rfl, ?_⟩) (by assumption) ?_
  rotate_left
  · (intro w hSw; (try dsimp only at hSw); go_simp; with_reducible rfl)
  try simp only [Act.put, List.setIfInBounds_toArray, List.set_cons_zero, List.set_cons_succ]
  refine wpAnyH_take (i := 17) (v := ?_) (by simp only [List.getElem?_toArray, List.getElem?_cons_succ, List.getElem?_cons_zero]; rfl) (by kernel_rfl) (by kernel_rfl) (by kernel_rfl) (by exact fun _ _ _ h => h) (Or.inl ⟨by rfl, ?_⟩) (by assumption) ?_
  rotate_left
  · (intro w hSw; (try dsimp only at hSw); go_simp; with_reducible rfl)
  try simp only [Act.put, List.setIfInBounds_toArray, List.set_cons_zero, List.set_cons_succ]
  refine wpAnyH_take (i := 18) (v := ?_) (by simp only [List.getElem?_toArray, List.getElem?_cons_succ, List.getElem?_cons_zero]; rfl) (by kernel_rfl) (by kernel_rfl) (by kernel_rfl) (by exact fun _ _ _ h => h) (Or.inl ⟨by rfl, ?_⟩) (by assumption) ?_
  rotate_left
  · (intro w hSw; (try dsimp only at hSw); go_simp; with_reducible rfl)
  try simp only [Act.put, List.setIfInBounds_toArray, List.set_cons_zero, List.set_cons_succ]
  refine wpAnyH_take (i := 19) (v := ?_) (by simp only [List.getElem?_toArray, List.getElem?_cons_succ, List.getElem?_cons_zero]; rfl) (by kernel_rfl) (by kernel_rfl) (by kernel_rfl) (by exact fun _ _ _ h => h) (Or.inl ⟨by rfl, ?_⟩) (by assumption) ?_
  rotate_left
  · (intro w hSw; (try dsimp only at hSw); go_simp; with_reducible rfl)
  try simp only [Act.put, List.setIfInBounds_toArray, List.set_cons_zero, List.set_cons_succ]
  refine wpAnyH_take (i := 25) (v := ?_) (by simp only [List.getElem?_toArray, List.getElem?_cons_succ, List.getElem?_cons_zero]; rfl) (by kernel_rfl) (by kernel_rfl) (by kernel_rfl) (by exact fun _ _ _ h => h) (Or.inl ⟨by rfl, ?_⟩) (by assumption) ?_
  rotate_left
  · (intro w hSw; (try dsimp only at hSw); go_simp; with_reducible rfl)
  try simp only [Act.put, List.setIfInBounds_toArray, List.set_cons_zero, List.set_cons_succ]
  refine wpAnyH_take (i := 26) (v := ?_) (by simp only [List.getElem?_toArray, List.getElem?_cons_succ, List.getElem?_cons_zero]; rfl) (by kernel_rfl) (by kernel_rfl) (by kernel_rfl) (by exact fun _ _ _ h => h) (Or.inl ⟨by rfl, ?_⟩) (by assumption) ?_
  rotate_left
  · (intro w hSw; (try dsimp only at hSw); go_simp; with_reducible rfl)
  try simp only [Act.put, List.setIfInBounds_toArray, List.set_cons_zero, List.set_cons_succ]
  refine wpAnyH_ready (rs := [13, 20]) (by kernel_rfl) (by simp) ?_
  refine AllReadyH.cons (by simp only [List.getElem?_toArray, List.getElem?_cons_succ, List.getElem?_cons_zero]; rfl) (fun K hK => ?_) ?_
  · go_simp
    refine hK.out _ _ (⟨j1, j2, j3, k63⟩) (fun hHeld => ?_)
    clear hK K
    try simp only [Act.put, List.setIfInBounds_toArray, List.set_cons_zero, List.set_cons_succ]
    refine wpAnyH_ready (rs := [20]) (by kernel_rfl) (by simp) ?_
    refine AllReadyH.cons (by simp only [List.getElem?_toArray, List.getElem?_cons_succ, List.getElem?_cons_zero]; rfl) (fun K hK => ?_) ?_
    · go_simp
      refine hK.out _ _ (⟨j1, j2, j3, k63⟩) (fun hHeld => ?_)
      clear hK K
      try simp only [Act.put, List.setIfInBounds_toArray, List.set_cons_zero, List.set_cons_succ]
      refine wpAnyH_ready (rs := [21]) (by kernel_rfl) (by simp) ?_
      refine AllReadyH.cons (by simp only [List.getElem?_toArray, List.getElem?_cons_succ, List.getElem?_cons_zero]; rfl) (fun K hK => ?_) ?_
      · go_simp
        go_at_call 106
        refine GC.out.mono ?_
        rintro e w3 ⟨rfl, hw3⟩
        subst hw3
        go_wp2_with fail
        refine hK.out _ _ (⟨j1, j2, j3, k63⟩) (fun hHeld => ?_)
        clear hK K
        try simp only [Act.put, List.setIfInBounds_toArray, List.set_cons_zero, List.set_cons_succ]
        refine wpAnyH_take (i := 22) (v := ?_) (by simp only [List.getElem?_toArray, List.getElem?_cons_succ, List.getElem?_cons_zero]; rfl) (by kernel_rfl) (by kernel_rfl) (by kernel_rfl) (by exact fun _ _ _ h => h) (Or.inl ⟨by rfl, ?_⟩) (by assumption) ?_
        rotate_left
        · (intro w hSw; (try dsimp only at hSw); go_simp; (try rw [hwr]); with_reducible rfl)
        try simp only [Act.put, List.setIfInBounds_toArray, List.set_cons_zero, List.set_cons_succ]
        refine wpAnyH_take (i := 23) (v := ?_) (by simp only [List.getElem?_toArray, List.getElem?_cons_succ, List.getElem?_cons_zero]; rfl) (by kernel_rfl) (by kernel_rfl) (by kernel_rfl) (by exact fun _ _ _ h => h) (Or.inl ⟨by rfl, ?_⟩) (by assumption) ?_
        rotate_left
        · (intro w hSw; (try dsimp only at hSw); go_simp; (try rw [hwr]); with_reducible rfl)
        try simp only [Act.put, List.setIfInBounds_toArray, List.set_cons_zero, List.set_cons_succ]
        refine wpAnyH_take (i := 24) (v := ?_) (by simp only [List.getElem?_toArray, List.getElem?_cons_succ, List.getElem?_cons_zero]; rfl) (by kernel_rfl) (by kernel_rfl) (by kernel_rfl) (by exact fun _ _ _ h => h) (Or.inl ⟨by rfl, ?_⟩) (by assumption) ?_
        rotate_left
        · (intro w hSw; (try dsimp only at hSw); go_simp; (try rw [hwr]); with_reducible rfl)
        try simp only [Act.put, List.setIfInBounds_toArray, List.set_cons_zero, List.set_cons_succ]
        refine wpAnyH_take (i := 27) (v := ?_) (by simp only [List.getElem?_toArray, List.getElem?_cons_succ, List.getElem?_cons_zero]; rfl) (by kernel_rfl) (by kernel_rfl) (by kernel_rfl) (by exact fun _ _ _ h => h) (Or.inl ⟨by rfl, ?_⟩) (by assumption) ?_
        rotate_left
        · (intro w hSw; (try dsimp only at hSw); go_simp; (try rw [hwr]); with_reducible rfl)
        try simp only [Act.put, List.setIfInBounds_toArray, List.set_cons_zero, List.set_cons_succ]
        refine wpAnyH_ready (rs := [28]) (by kernel_rfl) (by simp) ?_
        refine AllReadyH.cons (by simp only [List.getElem?_toArray, List.getElem?_cons_succ, List.getElem?_cons_zero]; rfl) (fun K hK => ?_) ?_
        · go_simp
          refine hK.out _ _ (⟨(World.cell?_setCell_other _ _ _ _ (fun hh => hgs (congrArg Addr.block hh))).trans j1, (World.cell?_setCell_other _ _ _ _ (fun hh => hgs (congrArg Addr.block hh))).trans j2, (World.cell?_setCell_other _ _ _ _ (fun hh => hgs (congrArg Addr.block hh))).trans j3, (World.cell?_setCell_other _ _ _ _ (fun hh => absurd (congrArg Addr.off hh) (by simp; omega))).trans k63⟩) (fun hHeld => ?_)
          clear hK K
          try simp only [Act.put, List.setIfInBounds_toArray, List.set_cons_zero, List.set_cons_succ]
          refine wpAnyH_done (by kernel_rfl) ?_ _
          go_wp2_with fail
          go_end0
          exact ⟨rfl, MH.out, OH.out⟩
        exact AllReadyH.nil
      exact AllReadyH.nil
    exact AllReadyH.nil
  refine AllReadyH.cons (by simp only [List.getElem?_toArray, List.getElem?_cons_succ, List.getElem?_cons_zero]; rfl) (fun K hK => ?_) ?_
  · go_simp
    refine hK.out _ _ (⟨j1, j2, j3, k63⟩) (fun hHeld => ?_)
    clear hK K
    try simp only [Act.put, List.setIfInBounds_toArray, List.set_cons_zero, List.set_cons_succ]
    refine wpAnyH_ready (rs := [13]) (by kernel_rfl) (by simp) ?_
    refine AllReadyH.cons (by simp only [List.getElem?_toArray, List.getElem?_cons_succ, List.getElem?_cons_zero]; rfl) (fun K hK => ?_) ?_
    · go_simp
      refine hK.out _ _ (⟨j1, j2, j3, k63⟩) (fun hHeld => ?_)
      clear hK K
      try simp only [Act.put, List.setIfInBounds_toArray, List.set_cons_zero, List.set_cons_succ]
      refine wpAnyH_ready (rs := [21]) (by kernel_rfl) (by simp) ?_
      refine AllReadyH.cons (by simp only [List.getElem?_toArray, List.getElem?_cons_succ, List.getElem?_cons_zero]; rfl) (fun K hK => ?_) ?_
      · go_simp
        go_at_call 106
        refine GC.out.mono ?_
        rintro e w3 ⟨rfl, hw3⟩
        subst hw3
        go_wp2_with fail
        refine hK.out _ _ (⟨j1, j2, j3, k63⟩) (fun hHeld => ?_)
        clear hK K
        try simp only [Act.put, List.setIfInBounds_toArray, List.set_cons_zero, List.set_cons_succ]
        refine wpAnyH_take (i := 22) (v := ?_) (by simp only [List.getElem?_toArray, List.getElem?_cons_succ, List.getElem?_cons_zero]; rfl) (by kernel_rfl) (by kernel_rfl) (by kernel_rfl) (by exact fun _ _ _ h => h) (Or.inl ⟨by rfl, ?_⟩) (by assumption) ?_
        rotate_left
        · (intro w hSw; (try dsimp only at hSw); go_simp; (try rw [hwr]); with_reducible rfl)
        try simp only [Act.put, List.setIfInBounds_toArray, List.set_cons_zero, List.set_cons_succ]
        refine wpAnyH_take (i := 23) (v := ?_) (by simp only [List.getElem?_toArray, List.getElem?_cons_succ, List.getElem?_cons_zero]; rfl) (by kernel_rfl) (by kernel_rfl) (by kernel_rfl) (by exact fun _ _ _ h => h) (Or.inl ⟨by rfl, ?_⟩) (by assumption) ?_
        rotate_left
        · (intro w hSw; (try dsimp only at hSw); go_simp; (try rw [hwr]); with_reducible rfl)
        try simp only [Act.put, List.setIfInBounds_toArray, List.set_cons_zero, List.set_cons_succ]
        refine wpAnyH_take (i := 24) (v := ?_) (by simp only [List.getElem?_toArray, List.getElem?_cons_succ, List.getElem?_cons_zero]; rfl) (by kernel_rfl) (by kernel_rfl) (by kernel_rfl) (by exact fun _ _ _ h => h) (Or.inl ⟨by rfl, ?_⟩) (by assumption) ?_
        rotate_left
        · (intro w hSw; (try dsimp only at hSw); go_simp; (try rw [hwr]); with_reducible rfl)
        try simp only [Act.put, List.setIfInBounds_toArray, List.set_cons_zero, List.set_cons_succ]
        refine wpAnyH_take (i := 27) (v := ?_) (by simp only [List.getElem?_toArray, List.getElem?_cons_succ, List.getElem?_cons_zero]; rfl) (by kernel_rfl) (by kernel_rfl) (by kernel_rfl) (by exact fun _ _ _ h => h) (Or.inl ⟨by rfl, ?_⟩) (by assumption) ?_
        rotate_left
        · (intro w hSw; (try dsimp only at hSw); go_simp; (try rw [hwr]); with_reducible rfl)
        try simp only [Act.put, List.setIfInBounds_toArray, List.set_cons_zero, List.set_cons_succ]
        refine wpAnyH_ready (rs := [28]) (by kernel_rfl) (by simp) ?_
        refine AllReadyH.cons (by simp only [List.getElem?_toArray, List.getElem?_cons_succ, List.getElem?_cons_zero]; rfl) (fun K hK => ?_) ?_
        · go_simp
          refine hK.out _ _ (⟨(World.cell?_setCell_other _ _ _ _ (fun hh => hgs (congrArg Addr.block hh))).trans j1, (World.cell?_setCell_other _ _ _ _ (fun hh => hgs (congrArg Addr.block hh))).trans j2, (World.cell?_setCell_other _ _ _ _ (fun hh => hgs (congrArg Addr.block hh))).trans j3, (World.cell?_setCell_other _ _ _ _ (fun hh => absurd (congrArg Addr.off hh) (by simp; omega))).trans k63⟩) (fun hHeld => ?_)
          clear hK K
          try simp only [Act.put, List.setIfInBounds_toArray, List.set_cons_zero, List.set_cons_succ]
          refine wpAnyH_done (by kernel_rfl) ?_ _
          go_wp2_with fail
          go_end0
          exact ⟨rfl, MH.out, OH.out⟩
        exact AllReadyH.nil
      exact AllReadyH.nil
    exact AllReadyH.nil
  exact AllReadyH.nil
set_option maxRecDepth 100000 in
set_option maxHeartbeats 8000000 in
theorem mstx_ok (w : World) (C : Nat → Prop) (g : Nat) (K : MK) (q : MQ) (c : Nat) (h : MAt w C g K q c) (op : Int) (a b d : Nat) (n : Int) (ha : a < 16) (hb : b < 16) (hd : d < 16) (hc : c < 9000000000000) (hra : i64in (q.regs a)) (hrb : i64in (q.regs b)) (hE : ∀ w1 D, MAt w1 D g K q c → Calls Try.prog 105 #[.pointer (some ⟨g, 0, none⟩), insR op a b d n] w1 (Did w1 D g K q c)) : Calls Try.prog 68 #[.pointer (some ⟨g, 0, none⟩), insR op a b d n] w (Did w C g K { q with hp := q.hp.set (q.regs b) (q.regs d) (q.regs a) } (c + 1)) := by
  have la : (a : Int) < 16 := by omega
  have lb : (b : Int) < 16 := by omega
  have ld : (d : Int) < 16 := by omega
  obtain ⟨z0, p, h⟩ := h
  obtain ⟨w1, s, z, hw, hs, ls, M, O, i0, i1, i2, i3, i4⟩ := h.boxed2 op a b d n
  have hl := M.lt
  have zz := M.frozen
  have DD : Hid (Did w C g K { q with hp := q.hp.set (q.regs b) (q.regs d) (q.regs a) } (c + 1) = fun e w' => e = .returned (.tuple #[]) ∧ MAt w' C g K { q with hp := q.hp.set (q.regs b) (q.regs d) (q.regs a) } (c + 1) ∧ Only C w w') := rfl
  rw [DD.out]
  clear DD
  obtain ⟨q2, hq2⟩ : ∃ q2, q2 = { q with hp := q.hp.set (q.regs b) (q.regs d) (q.regs a) } := ⟨_, rfl⟩
  rw [← hq2]
  have HQ := Lib.hid hq2
  clear hq2
  have kd0 := M.kr d hd
  have kb0 := M.kr b hb
  have EC := Lib.hid (hE w1 (fun b => C b ∧ b ≠ s) ⟨z, p, M⟩)
  have hC1 := M.cg
  have hgs : g ≠ s := M.cg.2
  have ON := Lib.hid O
  clear kd0 kb0 h M O hE
  unfold insR at *
  go_enter Try.func68, Try.ntmps68
  go_wp2_with fail
  rw [← hw, ← hs]
  clear hw hs
  refine EC.out.mono ?_
  rintro e w2 ⟨rfl, ⟨z2, p2, M2⟩, O2⟩
  have j1 := (O2.cell (b := s) (o := 1) ls (fun hb => hb.2 rfl)).trans i1
  have j2 := (O2.cell (b := s) (o := 2) ls (fun hb => hb.2 rfl)).trans i2
  have j3 := (O2.cell (b := s) (o := 3) ls (fun hb => hb.2 rfl)).trans i3
  have ka := M2.kr a ha
  have kb := M2.kr b hb
  have kd := M2.kr d hd
  have k63 := M2.k63
  have zz2 := M2.frozen
  have O3 := ON.out.trans O2 fun b _ hb => hb.1
  have ls2 : s < w2.heap.size := Nat.lt_of_lt_of_le ls O2.size
  clear i0 i1 i2 i3 i4 zz hl EC ON
  have hs4 : ¬ z2 s = 4 := fun e => (M2.foot s (by omega)).2 rfl
  have hg4 : ¬ z2 g = 4 := by rw [M2.zg]; decide
  have hgl := M2.lt
  have SC := Lib.hid ((hset_c w2.drew _ p2.hp c q.hp (q.regs b) (q.regs d) (q.regs a) (M2.ha.drewN 1) M2.hok hrb hra hc).mono (fun e w' hd' => show e = .returned (.bool (q.hp.has (q.regs b) (q.regs d))) ∧ Hid (MAt w' C g K q2 (c + 1) ∧ Only C w w') ∧ w'.cell? ⟨s, 1, none⟩ = some (.int .i64 a) ∧ w'.cell? ⟨s, 2, none⟩ = some (.int .i64 b) ∧ w'.cell? ⟨s, 3, none⟩ = some (.int .i64 d) ∧ w'.cell? ⟨g, 63, none⟩ = some (.pointer (some ⟨p2.hp, 0, none⟩)) ∧ w'.cell? ⟨g, 45 + a, none⟩ = some (.int .i64 (q.regs a)) ∧ w'.cell? ⟨g, 45 + b, none⟩ = some (.int .i64 (q.regs b)) ∧ w'.cell? ⟨g, 45 + d, none⟩ = some (.int .i64 (q.regs d)) from
    have M4 := (M2.drew).sHp hd'.2.2 (Nat.le_succ c) _ hd'.2.1 (M2.hok.set _ _ _)
    ⟨hd'.1, ⟨HQ.out ▸ MAt.more ⟨z2, p2, M4⟩ fun b _ hb => hb.1, O3.drew.trans hd'.2.2 fun b _ hb => (M2.foot b (by omega)).1⟩, (hd'.2.2.cell (b := s) (o := 1) ls2 hs4).trans j1, (hd'.2.2.cell (b := s) (o := 2) ls2 hs4).trans j2, (hd'.2.2.cell (b := s) (o := 3) ls2 hs4).trans j3, (hd'.2.2.cell (b := g) (o := 63) hgl hg4).trans k63, M4.kr a ha, M4.kr b hb, M4.kr d hd⟩))
  clear M2 O2 O3 hrb hra hs4 hg4
  clear HQ
  generalize q.hp.has (q.regs b) (q.regs d) = yy at *
  generalize q.regs (a : Int) = va at *
  generalize q.regs (b : Int) = vb at *
  generalize q.regs (d : Int) = vd at *
  go_wp2_with fail
  refine wp_region_held_drew (S := (fun w' => w'.cell? ⟨s, 1, none⟩ = some (.int .i64 a) ∧ w'.cell? ⟨s, 2, none⟩ = some (.int .i64 b) ∧ w'.cell? ⟨s, 3, none⟩ = some (.int .i64 d) ∧ w'.cell? ⟨g, 63, none⟩ = some (.pointer (some ⟨p2.hp, 0, none⟩)) ∧ w'.cell? ⟨g, 45 + a, none⟩ = some (.int .i64 va) ∧ w'.cell? ⟨g, 45 + b, none⟩ = some (.int .i64 vb) ∧ w'.cell? ⟨g, 45 + d, none⟩ = some (.int .i64 vd))) (by kernel_rfl) (⟨j1, j2, j3, k63, ka, kb, kd⟩) (fun hHeld => ?_)
  refine wpAnyH_take (i := 0) (v := ?_) (by simp only [List.getElem?_toArray, List.getElem?_cons_succ, List.getElem?_cons_zero]; rfl) (by kernel_rfl) (by kernel_rfl) (by kernel_rfl) (by exact fun _ _ _ h => h) (Or.inl ⟨by rfl, ?_⟩) (by assumption) ?_
  rotate_left
  · (intro w hSw; (try dsimp only at hSw); go_simp; (try rw [hwr]); with_reducible rfl)
  try simp only [Act.put, List.setIfInBounds_toArray, List.set_cons_zero, List.set_cons_succ]
  refine wpAnyH_take (i := 1) (v := ?_) (by simp only [List.getElem?_toArray, List.getElem?_cons_succ, List.getElem?_cons_zero]; rfl) (by kernel_rfl) (by kernel_rfl) (by kernel_rfl) (by exact fun _ _ _ h => h) (Or.inl ⟨by rfl, ?_⟩) (by assumption) ?_
  rotate_left
  · (intro w hSw; (try dsimp only at hSw); go_simp; (try rw [hwr]); with_reducible rfl)
  try simp only [Act.put, List.setIfInBounds_toArray, List.set_cons_zero, List.set_cons_succ]
  refine wpAnyH_take (i := 2) (v := ?_) (by simp only [List.getElem?_toArray, List.getElem?_cons_succ, List.getElem?_cons_zero]; rfl) (by kernel_rfl) (by kernel_rfl) (by kernel_rfl) (by exact fun _ _ _ h => h) (Or.inl ⟨by rfl, ?_⟩) (by assumption) ?_
  rotate_left
  · (intro w hSw; (try dsimp only at hSw); go_simp; (try rw [hwr]); with_reducible rfl)
  try simp only [Act.put, List.setIfInBounds_toArray, List.set_cons_zero, List.set_cons_succ]
  refine wpAnyH_take (i := 3) (v := ?_) (by simp only [List.getElem?_toArray, List.getElem?_cons_succ, List.getElem?_cons_zero]; rfl) (by kernel_rfl) (by kernel_rfl) (by kernel_rfl) (by exact fun _ _ _ h => h) (Or.inl ⟨by rfl, ?_⟩) (by assumption) ?_
  rotate_left
  · (intro w hSw; (try dsimp only at hSw); go_simp; (try rw [hwr]); with_reducible rfl)
  try simp only [Act.put, List.setIfInBounds_toArray, List.set_cons_zero, List.set_cons_succ]
  refine wpAnyH_take (i := 4) (v := ?_) (by simp only [List.getElem?_toArray, List.getElem?_cons_succ, List.getElem?_cons_zero]; rfl) (by kernel_rfl) (by kernel_rfl) (by kernel_rfl) (by exact fun _ _ _ h => h) (Or.inl ⟨by rfl, ?_⟩) (by assumption) ?_
  rotate_left
  · (intro w hSw; (try dsimp only at hSw); go_simp; (try rw [hwr]); with_reducible rfl)
  try simp only [Act.put, List.setIfInBounds_toArray, List.set_cons_zero, List.set_cons_succ]
  refine wpAnyH_take (i := 5) (v := ?_) (by simp only [List.getElem?_toArray, List.getElem?_cons_succ, List.getElem?_cons_zero]; rfl) (by kernel_rfl) (by kernel_rfl) (by kernel_rfl) (by exact fun _ _ _ h => h) (Or.inl ⟨by rfl, ?_⟩) (by assumption) ?_
  rotate_left
  · (intro w hSw; (try dsimp only at hSw); go_simp; (try rw [hwr]); with_reducible rfl)
  try simp only [Act.put, List.setIfInBounds_toArray, List.set_cons_zero, List.set_cons_succ]
  refine wpAnyH_take (i := 6) (v := ?_) (by simp only [List.getElem?_toArray, List.getElem?_cons_succ, List.getElem?_cons_zero]; rfl) (by kernel_rfl) (by kernel_rfl) (by kernel_rfl) (by exact fun _ _ _ h => h) (Or.inl ⟨by rfl, ?_⟩) (by assumption) ?_
  rotate_left
  · (intro w hSw; (try dsimp only at hSw); go_simp; (try rw [hwr]); with_reducible rfl)
  try simp only [Act.put, List.setIfInBounds_toArray, List.set_cons_zero, List.set_cons_succ]
  refine wpAnyH_take (i := 7) (v := ?_) (by simp only [List.getElem?_toArray, List.getElem?_cons_succ, List.getElem?_cons_zero]; rfl) (by kernel_rfl) (by kernel_rfl) (by kernel_rfl) (by exact fun _ _ _ h => h) (Or.inl ⟨by rfl, ?_⟩) (by assumption) ?_
  rotate_left
  · (intro w hSw; (try dsimp only at hSw); go_simp; (try rw [hwr]); with_reducible rfl)
  try simp only [Act.put, List.setIfInBounds_toArray, List.set_cons_zero, List.set_cons_succ]
  refine wpAnyH_take (i := 8) (v := ?_) (by simp only [List.getElem?_toArray, List.getElem?_cons_succ, List.getElem?_cons_zero]; rfl) (by kernel_rfl) (by kernel_rfl) (by kernel_rfl) (by exact fun _ _ _ h => h) (Or.inl ⟨by rfl, ?_⟩) (by assumption) ?_
  rotate_left
  · (intro w hSw; (try dsimp only at hSw); go_simp; (try rw [hwr]); with_reducible rfl)
  try simp only [Act.put, List.setIfInBounds_toArray, List.set_cons_zero, List.set_cons_succ]
  refine wpAnyH_take (i := 9) (v := ?_) (by simp only [List.getElem?_toArray, List.getElem?_cons_succ, List.getElem?_cons_zero]; rfl) (by kernel_rfl) (by kernel_rfl) (by kernel_rfl) (by exact fun _ _ _ h => h) (Or.inl ⟨by rfl, ?_⟩) (by assumption) ?_
  rotate_left
  · (intro w hSw; (try dsimp only at hSw); go_simp; (try rw [hwr]); with_reducible rfl)
  try simp only [Act.put, List.setIfInBounds_toArray, List.set_cons_zero, List.set_cons_succ]
  refine wpAnyH_take (i := 10) (v := ?_) (by simp only [List.getElem?_toArray, List.getElem?_cons_succ, List.getElem?_cons_zero]; rfl) (by kernel_rfl) (by kernel_rfl) (by kernel_rfl) (by exact fun _ _ _ h => h) (Or.inl ⟨by rfl, ?_⟩) (by assumption) ?_
  rotate_left
  · (intro w hSw; (try dsimp only at hSw); go_simp; (try rw [hwr]); with_reducible rfl)
  try simp only [Act.put, List.setIfInBounds_toArray, List.set_cons_zero, List.set_cons_succ]
  refine wpAnyH_take (i := 11) (v := ?_) (by simp only [List.getElem?_toArray, List.getElem?_cons_succ, List.getElem?_cons_zero]; rfl) (by kernel_rfl) (by kernel_rfl) (by kernel_rfl) (by exact fun _ _ _ h => h) (Or.inl ⟨by rfl, ?_⟩) (by assumption) ?_
  rotate_left
  · (intro w hSw; (try dsimp only at hSw); go_simp; (try rw [hwr]); with_reducible rfl)
  try simp only [Act.put, List.setIfInBounds_toArray, List.set_cons_zero, List.set_cons_succ]
  refine wpAnyH_take (i := 12) (v := ?_) (by simp only [List.getElem?_toArray, List.getElem?_cons_succ, List.getElem?_cons_zero]; rfl) (by kernel_rfl) (by kernel_rfl) (by kernel_rfl) (by exact fun _ _ _ h => h) (Or.inl ⟨by rfl, ?_⟩) (by assumption) ?_
  rotate_left
  · (intro w hSw; (try dsimp only at hSw); go_simp; (try rw [hwr]); with_reducible rfl)
  try simp only [Act.put, List.setIfInBounds_toArray, List.set_cons_zero, List.set_cons_succ]
  refine wpAnyH_take (i := 13) (v := ?_) (by simp only [List.getElem?_toArray, List.getElem?_cons_succ, List.getElem?_cons_zero]; rfl) (by kernel_rfl) (by kernel_rfl) (by kernel_rfl) (by exact fun _ _ _ h => h) (Or.inl ⟨by rfl, ?_⟩) (by assumption) ?_
  rotate_left
  · (intro w hSw; (try dsimp only at hSw); go_simp; (try rw [hwr]); with_reducible rfl)
  try simp only [Act.put, List.setIfInBounds_toArray, List.set_cons_zero, List.set_cons_succ]
  refine wpAnyH_take (i := 14) (v := ?_) (by simp only [List.getElem?_toArray, List.getElem?_cons_succ, List.getElem?_cons_zero]; rfl) (by kernel_rfl) (by kernel_rfl) (by kernel_rfl) (by exact fun _ _ _ h => h) (Or.inl ⟨by rfl, ?_⟩) (by assumption) ?_
  rotate_left
  · (intro w hSw; (try dsimp only at hSw); go_simp; (try rw [hwr]); with_reducible rfl)
  try simp only [Act.put, List.setIfInBounds_toArray, List.set_cons_zero, List.set_cons_succ]
  refine wpAnyH_take (i := 15) (v := ?_) (by simp only [List.getElem?_toArray, List.getElem?_cons_succ, List.getElem?_cons_zero]; rfl) (by kernel_rfl) (by kernel_rfl) (by kernel_rfl) (by exact fun _ _ _ h => h) (Or.inl ⟨by rfl, ?_⟩) (by assumption) ?_
  rotate_left
  · (intro w hSw; (try dsimp only at hSw); go_simp; (try rw [hwr]); with_reducible rfl)
  try simp only [Act.put, List.setIfInBounds_toArray, List.set_cons_zero, List.set_cons_succ]
  refine wpAnyH_take (i := 16) (v := ?_) (by simp only [List.getElem?_toArray, List.getElem?_cons_succ, List.getElem?_cons_zero]; rfl) (by kernel_rfl) (by kernel_rfl) (by kernel_rfl) (by exact fun _ _ _ h => h) (Or.inl ⟨by rfl, ?_⟩) (by assumption) ?_
  rotate_left
  · (intro w hSw; (try dsimp only at hSw); go_simp; (try rw [hwr]); with_reducible rfl)
  try simp only [Act.put, List.setIfInBounds_toArray, List.set_cons_zero, List.set_cons_succ]
  refine wpAnyH_take (i := 17) (v := ?_) (by simp only [List.getElem?_toArray, List.getElem?_cons_succ, List.getElem?_cons_zero]; rfl) (by kernel_rfl) (by kernel_rfl) (by kernel_rfl) (by exact fun _ _ _ h => h) (Or.inl ⟨by rfl, ?_⟩) (by assumption) ?_
  rotate_left
  · (intro w hSw; (try dsimp only at hSw); go_simp; (try rw [hwr]); with_reducible rfl)
  try simp only [Act.put, List.setIfInBounds_toArray, List.set_cons_zero, List.set_cons_succ]
  refine wpAnyH_take (i := 18) (v := ?_) (by simp only [List.getElem?_toArray, List.getElem?_cons_succ, List.getElem?_cons_zero]; rfl) (by kernel_rfl) (by kernel_rfl) (by kernel_rfl) (by exact fun _ _ _ h => h) (Or.inl ⟨by rfl, ?_⟩) (by assumption) ?_
  rotate_left
  · (intro w hSw; (try dsimp only at hSw); go_simp; (try rw [hwr]); with_reducible rfl)
  try simp only [Act.put, List.setIfInBounds_toArray, List.set_cons_zero, List.set_cons_succ]
  refine wpAnyH_take (i := 19) (v := ?_) (by simp only [List.getElem?_toArray, List.getElem?_cons_succ, List.getElem?_cons_zero]; rfl) (by kernel_rfl) (by kernel_rfl) (by kernel_rfl) (by exact fun _ _ _ h => h) (Or.inl ⟨by rfl, ?_⟩) (by assumption) ?_
  rotate_left
  · (intro w hSw; (try dsimp only at hSw); go_simp; (try rw [hwr]); with_reducible rfl)
  try simp only [Act.put, List.setIfInBounds_toArray, List.set_cons_zero, List.set_cons_succ]
  refine wpAnyH_take (i := 20) (v := ?_) (by simp only [List.getElem?_toArray, List.getElem?_cons_succ, List.getElem?_cons_zero]; rfl) (by kernel_rfl) (by kernel_rfl) (by kernel_rfl) (by exact fun _ _ _ h => h) (Or.inl ⟨by rfl, ?_⟩) (by assumption) ?_
  rotate_left
  · (intro w hSw; (try dsimp only at hSw); go_simp; (try rw [hwr]); with_reducible rfl)
  try simp only [Act.put, List.setIfInBounds_toArray, List.set_cons_zero, List.set_cons_succ]
  refine wpAnyH_take (i := 21) (v := ?_) (by simp only [List.getElem?_toArray, List.getElem?_cons_succ, List.getElem?_cons_zero]; rfl) (by kernel_rfl) (by kernel_rfl) (by kernel_rfl) (by exact fun _ _ _ h => h) (Or.inl ⟨by rfl, ?_⟩) (by assumption) ?_
  rotate_left
  · (intro w hSw; (try dsimp only at hSw); go_simp; (try rw [hwr]); with_reducible rfl)
  try simp only [Act.put, List.setIfInBounds_toArray, List.set_cons_zero, List.set_cons_succ]
  refine wpAnyH_take (i := 22) (v := ?_) (by simp only [List.getElem?_toArray, List.getElem?_cons_succ, List.getElem?_cons_zero]; rfl) (by kernel_rfl) (by kernel_rfl) (by kernel_rfl) (by exact fun _ _ _ h => h) (Or.inl ⟨by rfl, ?_⟩) (by assumption) ?_
  rotate_left
  · (intro w hSw; (try dsimp only at hSw); go_simp; (try rw [hwr]); with_reducible rfl)
  try simp only [Act.put, List.setIfInBounds_toArray, List.set_cons_zero, List.set_cons_succ]
  refine wpAnyH_take (i := 23) (v := ?_) (by simp only [List.getElem?_toArray, List.getElem?_cons_succ, List.getElem?_cons_zero]; rfl) (by kernel_rfl) (by kernel_rfl) (by kernel_rfl) (by exact fun _ _ _ h => h) (Or.inl ⟨by rfl, ?_⟩) (by assumption) ?_
  rotate_left
  · (intro w hSw; (try dsimp only at hSw); go_simp; (try rw [hwr]); with_reducible rfl)
  try simp only [Act.put, List.setIfInBounds_toArray, List.set_cons_zero, List.set_cons_succ]
  refine wpAnyH_take (i := 24) (v := ?_) (by simp only [List.getElem?_toArray, List.getElem?_cons_succ, List.getElem?_cons_zero]; rfl) (by kernel_rfl) (by kernel_rfl) (by kernel_rfl) (by exact fun _ _ _ h => h) (Or.inl ⟨by rfl, ?_⟩) (by assumption) ?_
  rotate_left
  · (intro w hSw; (try dsimp only at hSw); go_simp; (try rw [hwr]); with_reducible rfl)
  try simp only [Act.put, List.setIfInBounds_toArray, List.set_cons_zero, List.set_cons_succ]
  refine wpAnyH_ready (rs := [25]) (by kernel_rfl) (by simp) ?_
  refine AllReadyH.cons (by simp only [List.getElem?_toArray, List.getElem?_cons_succ, List.getElem?_cons_zero]; rfl) (fun K hK => ?_) ?_
  · go_simp
    go_at_call 107
    refine SC.out.mono ?_
    rintro e w3 ⟨rfl, HF, l1, l2, l3, l63, la3, lb3, ld3⟩
    go_wp2_with fail
    refine hK.out _ _ (⟨l1, l2, l3, l63, la3, lb3, ld3⟩) (fun hHeld => ?_)
    clear hK K
    try simp only [Act.put, List.setIfInBounds_toArray, List.set_cons_zero, List.set_cons_succ]
    refine wpAnyH_done (by kernel_rfl) ?_ _
    go_wp2_with fail
    go_end0
    exact ⟨rfl, HF.out⟩
  exact AllReadyH.nil
end Go.Proofs.Ytkjfbojmkkdgoaa
