/- r16's machine: truth, and what may be stuck. -/
import Derived.Test.YtkjfbojmkkdgoaaX5
import Derived.Laws.Bits64
set_option linter.unusedVariables false
set_option linter.unusedSimpArgs false
namespace Go.Proofs.Ytkjfbojmkkdgoaa
open Go.RowKit
attribute [local go_sem ↓] Go.wp_at_zero Go.wp_at_succ
set_option maxRecDepth 100000 in
set_option maxHeartbeats 8000000 in
theorem truth_yes (w : World) (C : Nat → Prop) (g : Nat) (K : MK) (q : MQ) (c : Nat) (h : MAt w C g K q c) (b : Nat) (hb : b < 16) (ht : q.regs b = 0 ∨ q.regs b = 1) :
    Calls Try.prog 101 #[.pointer (some ⟨g, 0, none⟩), .int .i64 b] w fun e w' => e = .returned (.int .i64 (q.regs b)) ∧ w' = w := by
  obtain ⟨z, p, h⟩ := h
  have k0 := h.kr b hb
  have l0 : (b : Int) < 16 := by omega
  clear h
  generalize q.regs (b : Int) = v at *
  rcases ht with rfl | rfl
  all_goals
    go_enter Try.func101, Try.ntmps101
    go_wp2_with fail
    go_ret
    exact ⟨rfl, rfl⟩
set_option maxRecDepth 100000 in
set_option maxHeartbeats 8000000 in
theorem truth_no (w : World) (C : Nat → Prop) (g : Nat) (K : MK) (q : MQ) (c : Nat) (h : MAt w C g K q c) (b : Nat) (hb : b < 16) (hr : i64in (q.regs b)) (ht : ¬ (q.regs b = 0 ∨ q.regs b = 1)) :
    Calls Try.prog 101 #[.pointer (some ⟨g, 0, none⟩), .int .i64 b] w fun e w' => e = .panicked [{ v := endV 3 5 0, recovered := false }] ∧ w' = w := by
  obtain ⟨z, p, h⟩ := h
  have k0 := h.kr b hb
  have l0 : (b : Int) < 16 := by omega
  clear h
  generalize q.regs (b : Int) = v at *
  obtain ⟨r1, r2⟩ := hr
  have hu : 1 < IntKind.u64.wrap v := by rw [IntKind.wrap_u64]; omega
  go_enter Try.func101, Try.ntmps101
  go_wp2_with (go_at_call 100; refine (stop_c _ _ _ _).mono ?_; rintro e w3 ⟨rfl, hw3⟩; subst hw3)
  exact ⟨rfl, rfl, rfl⟩
set_option maxRecDepth 100000 in
set_option maxHeartbeats 8000000 in
theorem mnot_ok (w : World) (C : Nat → Prop) (g : Nat) (K : MK) (q : MQ) (c : Nat) (h : MAt w C g K q c) (op : Int) (a b d : Nat) (n : Int) (ha : a < 16) (hb : b < 16) (ht : q.regs b = 0 ∨ q.regs b = 1) : Calls Try.prog 57 #[.pointer (some ⟨g, 0, none⟩), insR op a b d n] w (Did w C g K (q.reg a (1 - q.regs b)) c) := by
  obtain ⟨z, p, h⟩ := h
  obtain ⟨w1, s, hw, hs, M, O, i0, i1, i2, i3, i4⟩ := h.boxed op a b d n
  have hl := M.lt
  have zz := M.frozen
  have ka := M.kr a ha
  have la : (a : Int) < 16 := by omega
  have MN := Lib.hid M
  have ON := Lib.hid O
  have ls : s < w1.heap.size := World.block_lt_of_cell? w1 _ i0
  have hgs : g ≠ s := by rw [hs]; exact Nat.ne_of_lt h.lt
  have TC := Lib.hid (fun w' (hm : MZ w' C z g p K q c) => truth_yes w' C g K q c ⟨z, p, hm⟩ b hb ht)
  have MH := Lib.hid ((M.drewN 1).sreg a ha (1 - q.regs (b : Int)))
  have OH := Lib.hid ((O.drewN 1).cells (p := ⟨g, 45 + a, none⟩) M.cg (.int .i64 (1 - q.regs (b : Int))))
  clear h M O
  generalize q.regs (b : Int) = vb at *
  unfold insR
  go_enter Try.func57, Try.ntmps57
  go_wp2_with fail
  rw [← hw, ← hs]
  clear hw hs
  go_region_held3 (fun w' => w'.cell? ⟨s, 1, none⟩ = some (.int .i64 a) ∧ w'.cell? ⟨s, 2, none⟩ = some (.int .i64 b))
    (first | (go_keep; done) | (exact ⟨(World.cell?_setCell_other _ _ _ _ (fun hh => hgs (congrArg Addr.block hh))).trans i1, (World.cell?_setCell_other _ _ _ _ (fun hh => hgs (congrArg Addr.block hh))).trans i2⟩))
    ((go_at_call 101; refine (TC.out _ MN.out.drew).mono ?_; rintro e w2 ⟨rfl, hw2⟩; subst hw2))
  all_goals (go_wp2_with fail; go_end0)
  all_goals (rcases ht with rfl | rfl)
  all_goals exact ⟨rfl, ⟨z, p, MH.out⟩, OH.out⟩
set_option maxRecDepth 100000 in
set_option maxHeartbeats 8000000 in
theorem mnot_no (w : World) (C : Nat → Prop) (g : Nat) (K : MK) (q : MQ) (c : Nat) (h : MAt w C g K q c) (op : Int) (a b d : Nat) (n : Int) (ha : a < 16) (hb : b < 16) (hr : i64in (q.regs b)) (ht : ¬ (q.regs b = 0 ∨ q.regs b = 1)) : Calls Try.prog 57 #[.pointer (some ⟨g, 0, none⟩), insR op a b d n] w (Stops w C g K q c 3 5 0) := by
  obtain ⟨z, p, h⟩ := h
  obtain ⟨w1, s, hw, hs, M, O, i0, i1, i2, i3, i4⟩ := h.boxed op a b d n
  have hl := M.lt
  have zz := M.frozen
  have ka := M.kr a ha
  have la : (a : Int) < 16 := by omega
  have MN := Lib.hid M
  have ON := Lib.hid O
  have ls : s < w1.heap.size := World.block_lt_of_cell? w1 _ i0
  have hgs : g ≠ s := by rw [hs]; exact Nat.ne_of_lt h.lt
  have TC := Lib.hid (fun w' (hm : MZ w' C z g p K q c) => truth_no w' C g K q c ⟨z, p, hm⟩ b hb hr ht)
  clear h M O hr ht
  generalize q.regs (b : Int) = vb at *
  unfold insR
  go_enter Try.func57, Try.ntmps57
  go_wp2_with fail
  rw [← hw, ← hs]
  clear hw hs
  refine wp_region_held_drew (S := (fun w' => w'.cell? ⟨s, 1, none⟩ = some (.int .i64 a) ∧ w'.cell? ⟨s, 2, none⟩ = some (.int .i64 b))) (by kernel_rfl) (⟨i1, i2⟩) (fun hHeld => ?_)
  refine wpAnyH_take (i := 0) (v := ?_) (by simp only [List.getElem?_toArray, List.getElem?_cons_succ, List.getElem?_cons_zero]; rfl) (by kernel_rfl) (by kernel_rfl) (by kernel_rfl) (by exact fun _ _ _ h => h) (Or.inl ⟨by rfl, ?_⟩) (by assumption) ?_
  rotate_left
  · (intro w hSw; (try dsimp only at hSw); go_simp; with_reducible rfl)
  try simp only [Act.put, List.setIfInBounds_toArray, List.set_cons_zero, List.set_cons_succ]
  refine wpAnyH_take (i := 1) (v := ?_) (by simp only [List.getElem?_toArray, List.getElem?_cons_succ, List.getElem?_cons_zero]; rfl) (by kernel_rfl) (by kernel_rfl) (by kernel_rfl) (by exact fun _ _ _ h => h) (Or.inl ⟨by rfl, ?_⟩) (by assumption) ?_
  rotate_left
  · (intro w hSw; (try dsimp only at hSw); go_simp; with_reducible rfl)
  try simp only [Act.put, List.setIfInBounds_toArray, List.set_cons_zero, List.set_cons_succ]
  refine wpAnyH_take (i := 2) (v := ?_) (by simp only [List.getElem?_toArray, List.getElem?_cons_succ, List.getElem?_cons_zero]; rfl) (by kernel_rfl) (by kernel_rfl) (by kernel_rfl) (by exact fun _ _ _ h => h) (Or.inl ⟨by rfl, ?_⟩) (by assumption) ?_
  rotate_left
  · (intro w hSw; (try dsimp only at hSw); go_simp; with_reducible rfl)
  try simp only [Act.put, List.setIfInBounds_toArray, List.set_cons_zero, List.set_cons_succ]
  refine wpAnyH_take (i := 3) (v := ?_) (by simp only [List.getElem?_toArray, List.getElem?_cons_succ, List.getElem?_cons_zero]; rfl) (by kernel_rfl) (by kernel_rfl) (by kernel_rfl) (by exact fun _ _ _ h => h) (Or.inl ⟨by rfl, ?_⟩) (by assumption) ?_
  rotate_left
  · (intro w hSw; (try dsimp only at hSw); go_simp; with_reducible rfl)
  try simp only [Act.put, List.setIfInBounds_toArray, List.set_cons_zero, List.set_cons_succ]
  refine wpAnyH_take (i := 4) (v := ?_) (by simp only [List.getElem?_toArray, List.getElem?_cons_succ, List.getElem?_cons_zero]; rfl) (by kernel_rfl) (by kernel_rfl) (by kernel_rfl) (by exact fun _ _ _ h => h) (Or.inl ⟨by rfl, ?_⟩) (by assumption) ?_
  rotate_left
  · (intro w hSw; (try dsimp only at hSw); go_simp; with_reducible rfl)
  try simp only [Act.put, List.setIfInBounds_toArray, List.set_cons_zero, List.set_cons_succ]
  refine wpAnyH_take (i := 5) (v := ?_) (by simp only [List.getElem?_toArray, List.getElem?_cons_succ, List.getElem?_cons_zero]; rfl) (by kernel_rfl) (by kernel_rfl) (by kernel_rfl) (by exact fun _ _ _ h => h) (Or.inl ⟨by rfl, ?_⟩) (by assumption) ?_
  rotate_left
  · (intro w hSw; (try dsimp only at hSw); go_simp; with_reducible rfl)
  try simp only [Act.put, List.setIfInBounds_toArray, List.set_cons_zero, List.set_cons_succ]
  refine wpAnyH_take (i := 8) (v := ?_) (by simp only [List.getElem?_toArray, List.getElem?_cons_succ, List.getElem?_cons_zero]; rfl) (by kernel_rfl) (by kernel_rfl) (by kernel_rfl) (by exact fun _ _ _ h => h) (Or.inl ⟨by rfl, ?_⟩) (by assumption) ?_
  rotate_left
  · (intro w hSw; (try dsimp only at hSw); go_simp; with_reducible rfl)
  try simp only [Act.put, List.setIfInBounds_toArray, List.set_cons_zero, List.set_cons_succ]
  refine wpAnyH_take (i := 9) (v := ?_) (by simp only [List.getElem?_toArray, List.getElem?_cons_succ, List.getElem?_cons_zero]; rfl) (by kernel_rfl) (by kernel_rfl) (by kernel_rfl) (by exact fun _ _ _ h => h) (Or.inl ⟨by rfl, ?_⟩) (by assumption) ?_
  rotate_left
  · (intro w hSw; (try dsimp only at hSw); go_simp; with_reducible rfl)
  try simp only [Act.put, List.setIfInBounds_toArray, List.set_cons_zero, List.set_cons_succ]

  refine wpAnyH_ready (rs := [6]) (by kernel_rfl) (by simp) ?_
  refine AllReadyH.cons (by simp only [List.getElem?_toArray, List.getElem?_cons_succ, List.getElem?_cons_zero]; rfl) (fun K hK => ?_) AllReadyH.nil
  go_simp
  go_at_call 101
  refine (TC.out _ MN.out.drew).mono ?_
  rintro e w2 ⟨rfl, hw2⟩
  subst hw2
  exact ⟨rfl, rfl, ⟨z, p, MN.out.drew⟩, ON.out.drew⟩
set_option maxRecDepth 100000 in
set_option maxHeartbeats 8000000 in
theorem mdivide_no (w : World) (C : Nat → Prop) (g : Nat) (K : MK) (q : MQ) (c : Nat) (h : MAt w C g K q c) (op : Int) (a b d : Nat) (n : Int) (hd : d < 16) (ht : q.regs d = 0) : Calls Try.prog 54 #[.pointer (some ⟨g, 0, none⟩), insR op a b d n] w (Stops w C g K q c 3 3 0) := by
  obtain ⟨z, p, h⟩ := h
  obtain ⟨w1, s, hw, hs, M, O, i0, i1, i2, i3, i4⟩ := h.boxed op a b d n
  have hl := M.lt
  have zz := M.frozen
  have kd := M.kr d hd
  have ld : (d : Int) < 16 := by omega
  have MN := Lib.hid (fun k => M.drewN k)
  have ON := Lib.hid (fun k => O.drewN k)
  clear h M O
  generalize q.regs (d : Int) = vd at *
  have ht' : (vd == 0) = true := beq_iff_eq.2 ht
  unfold insR
  go_enter Try.func54, Try.ntmps54
  go_wp2_with fail
  rw [← hw, ← hs]
  clear hw hs
  go_quiet (fail)
  go_wp2_with (go_at_call 100; refine (stop_c _ _ _ _).mono ?_; rintro e w3 ⟨rfl, hw3⟩; subst hw3)
  exact ⟨rfl, rfl, ⟨z, p, MN.out _⟩, ON.out _⟩
set_option maxRecDepth 100000 in
set_option maxHeartbeats 8000000 in
theorem mdivide_ok (w : World) (C : Nat → Prop) (g : Nat) (K : MK) (q : MQ) (c : Nat) (h : MAt w C g K q c) (op : Int) (a b d : Nat) (n : Int) (h1 : 3 ≤ op) (h2 : op ≤ 19) (ha : a < 16) (hb : b < 16) (hd : d < 16) (ht : ¬ q.regs d = 0) : Calls Try.prog 54 #[.pointer (some ⟨g, 0, none⟩), insR op a b d n] w (Did w C g K (q.reg a (wdo (op - 1) (q.regs b) (q.regs d))) c) := by
  obtain ⟨z, p, h⟩ := h
  obtain ⟨w1, s, hw, hs, M, O, i0, i1, i2, i3, i4⟩ := h.boxed op a b d n
  have hl := M.lt
  have zz := M.frozen
  have kd := M.kr d hd
  have ld : (d : Int) < 16 := by omega
  have ON := Lib.hid (fun k => O.drewN k)
  have SC := Lib.hid (fun k => msum_c (w1.drewN k) C g K q c ⟨z, p, M.drewN k⟩ op a b d n h1 h2 ha hb hd)
  have DD := Lib.hid (fun (k : Nat) (e : Ending) (w' : World) (hd : Did (w1.drewN k) C g K (q.reg a (wdo (op - 1) (q.regs b) (q.regs d))) c e w') => show Did w C g K (q.reg a (wdo (op - 1) (q.regs b) (q.regs d))) c e w' from ⟨hd.1, hd.2.1, (ON.out k).trans hd.2.2 fun _ _ h => h⟩)
  clear h M O
  unfold insR at *
  generalize q.reg a (wdo (op - 1) (q.regs b) (q.regs d)) = q' at *
  generalize q.regs (d : Int) = vd at *
  have ht' : (vd == 0) = false := beq_eq_false_iff_ne.2 ht
  go_enter Try.func54, Try.ntmps54
  go_wp2_with fail
  rw [← hw, ← hs]
  clear hw hs
  go_quiet (fail)
  go_wp2_with (go_at_call 51; refine (SC.out _).mono ?_; rintro e w3 hd3; have HD := Lib.hid (DD.out _ _ _ hd3); obtain ⟨he, -⟩ := hd3; subst he)
  go_end0
  exact HD.out
set_option maxRecDepth 100000 in
set_option maxHeartbeats 8000000 in
theorem mshift_no (w : World) (C : Nat → Prop) (g : Nat) (K : MK) (q : MQ) (c : Nat) (h : MAt w C g K q c) (op : Int) (a b d : Nat) (n : Int) (hd : d < 16) (ht : q.regs d < 0) : Calls Try.prog 55 #[.pointer (some ⟨g, 0, none⟩), insR op a b d n] w (Stops w C g K q c 3 4 0) := by
  obtain ⟨z, p, h⟩ := h
  obtain ⟨w1, s, hw, hs, M, O, i0, i1, i2, i3, i4⟩ := h.boxed op a b d n
  have hl := M.lt
  have zz := M.frozen
  have kd := M.kr d hd
  have ld : (d : Int) < 16 := by omega
  have MN := Lib.hid (fun k => M.drewN k)
  have ON := Lib.hid (fun k => O.drewN k)
  clear h M O
  generalize q.regs (d : Int) = vd at *

  unfold insR
  go_enter Try.func55, Try.ntmps55
  go_wp2_with fail
  rw [← hw, ← hs]
  clear hw hs
  go_quiet (fail)
  go_wp2_with (go_at_call 100; refine (stop_c _ _ _ _).mono ?_; rintro e w3 ⟨rfl, hw3⟩; subst hw3)
  exact ⟨rfl, rfl, ⟨z, p, MN.out _⟩, ON.out _⟩
set_option maxRecDepth 100000 in
set_option maxHeartbeats 8000000 in
theorem mshift_ok (w : World) (C : Nat → Prop) (g : Nat) (K : MK) (q : MQ) (c : Nat) (h : MAt w C g K q c) (op : Int) (a b d : Nat) (n : Int) (h1 : 3 ≤ op) (h2 : op ≤ 19) (ha : a < 16) (hb : b < 16) (hd : d < 16) (ht : ¬ q.regs d < 0) : Calls Try.prog 55 #[.pointer (some ⟨g, 0, none⟩), insR op a b d n] w (Did w C g K (q.reg a (wdo (op - 1) (q.regs b) (q.regs d))) c) := by
  obtain ⟨z, p, h⟩ := h
  obtain ⟨w1, s, hw, hs, M, O, i0, i1, i2, i3, i4⟩ := h.boxed op a b d n
  have hl := M.lt
  have zz := M.frozen
  have kd := M.kr d hd
  have ld : (d : Int) < 16 := by omega
  have ON := Lib.hid (fun k => O.drewN k)
  have SC := Lib.hid (fun k => msum_c (w1.drewN k) C g K q c ⟨z, p, M.drewN k⟩ op a b d n h1 h2 ha hb hd)
  have DD := Lib.hid (fun (k : Nat) (e : Ending) (w' : World) (hd : Did (w1.drewN k) C g K (q.reg a (wdo (op - 1) (q.regs b) (q.regs d))) c e w') => show Did w C g K (q.reg a (wdo (op - 1) (q.regs b) (q.regs d))) c e w' from ⟨hd.1, hd.2.1, (ON.out k).trans hd.2.2 fun _ _ h => h⟩)
  clear h M O
  unfold insR at *
  generalize q.reg a (wdo (op - 1) (q.regs b) (q.regs d)) = q' at *
  generalize q.regs (d : Int) = vd at *

  go_enter Try.func55, Try.ntmps55
  go_wp2_with fail
  rw [← hw, ← hs]
  clear hw hs
  go_quiet (fail)
  go_wp2_with (go_at_call 51; refine (SC.out _).mono ?_; rintro e w3 hd3; have HD := Lib.hid (DD.out _ _ _ hd3); obtain ⟨he, -⟩ := hd3; subst he)
  go_end0
  exact HD.out
set_option maxRecDepth 100000 in
set_option maxHeartbeats 8000000 in
theorem mtrapZero_no (w : World) (C : Nat → Prop) (g : Nat) (K : MK) (q : MQ) (c : Nat) (h : MAt w C g K q c) (op : Int) (a b d : Nat) (n : Int) (ha : a < 16) (ht : q.regs a = 0) : Calls Try.prog 69 #[.pointer (some ⟨g, 0, none⟩), insR op a b d n] w (Stops w C g K q c 2 n 0) := by
  obtain ⟨z, p, h⟩ := h
  obtain ⟨w1, s, hw, hs, M, O, i0, i1, i2, i3, i4⟩ := h.boxed op a b d n
  have hl := M.lt
  have zz := M.frozen
  have ka := M.kr a ha
  have la : (a : Int) < 16 := by omega
  have MN := Lib.hid (fun k => M.drewN k)
  have ON := Lib.hid (fun k => O.drewN k)
  clear h M O
  generalize q.regs (a : Int) = va at *
  have ht' : (va == 0) = true := beq_iff_eq.2 ht
  unfold insR
  go_enter Try.func69, Try.ntmps69
  go_wp2_with fail
  rw [← hw, ← hs]
  clear hw hs
  go_quiet (fail)
  go_wp2_with (go_at_call 100; refine (stop_c _ _ _ _).mono ?_; rintro e w3 ⟨rfl, hw3⟩; subst hw3)
  exact ⟨rfl, rfl, ⟨z, p, MN.out _⟩, ON.out _⟩
set_option maxRecDepth 100000 in
set_option maxHeartbeats 8000000 in
theorem mtrapZero_ok (w : World) (C : Nat → Prop) (g : Nat) (K : MK) (q : MQ) (c : Nat) (h : MAt w C g K q c) (op : Int) (a b d : Nat) (n : Int) (ha : a < 16) (ht : ¬ q.regs a = 0) : Calls Try.prog 69 #[.pointer (some ⟨g, 0, none⟩), insR op a b d n] w (Did w C g K q c) := by
  obtain ⟨z, p, h⟩ := h
  obtain ⟨w1, s, hw, hs, M, O, i0, i1, i2, i3, i4⟩ := h.boxed op a b d n
  have hl := M.lt
  have zz := M.frozen
  have ka := M.kr a ha
  have la : (a : Int) < 16 := by omega
  have MN := Lib.hid (fun k => M.drewN k)
  have ON := Lib.hid (fun k => O.drewN k)
  clear h M O
  generalize q.regs (a : Int) = va at *
  have ht' : (va == 0) = false := beq_eq_false_iff_ne.2 ht
  unfold insR
  go_enter Try.func69, Try.ntmps69
  go_wp2_with fail
  rw [← hw, ← hs]
  clear hw hs
  go_quiet (fail)
  go_wp2_with fail
  go_end0
  exact ⟨rfl, ⟨z, p, MN.out _⟩, ON.out _⟩
set_option maxRecDepth 100000 in
set_option maxHeartbeats 8000000 in
theorem mtrapNegative_no (w : World) (C : Nat → Prop) (g : Nat) (K : MK) (q : MQ) (c : Nat) (h : MAt w C g K q c) (op : Int) (a b d : Nat) (n : Int) (ha : a < 16) (ht : q.regs a < 0) : Calls Try.prog 70 #[.pointer (some ⟨g, 0, none⟩), insR op a b d n] w (Stops w C g K q c 2 n 0) := by
  obtain ⟨z, p, h⟩ := h
  obtain ⟨w1, s, hw, hs, M, O, i0, i1, i2, i3, i4⟩ := h.boxed op a b d n
  have hl := M.lt
  have zz := M.frozen
  have ka := M.kr a ha
  have la : (a : Int) < 16 := by omega
  have MN := Lib.hid (fun k => M.drewN k)
  have ON := Lib.hid (fun k => O.drewN k)
  clear h M O
  generalize q.regs (a : Int) = va at *

  unfold insR
  go_enter Try.func70, Try.ntmps70
  go_wp2_with fail
  rw [← hw, ← hs]
  clear hw hs
  go_quiet (fail)
  go_wp2_with (go_at_call 100; refine (stop_c _ _ _ _).mono ?_; rintro e w3 ⟨rfl, hw3⟩; subst hw3)
  exact ⟨rfl, rfl, ⟨z, p, MN.out _⟩, ON.out _⟩
set_option maxRecDepth 100000 in
set_option maxHeartbeats 8000000 in
theorem mtrapNegative_ok (w : World) (C : Nat → Prop) (g : Nat) (K : MK) (q : MQ) (c : Nat) (h : MAt w C g K q c) (op : Int) (a b d : Nat) (n : Int) (ha : a < 16) (ht : ¬ q.regs a < 0) : Calls Try.prog 70 #[.pointer (some ⟨g, 0, none⟩), insR op a b d n] w (Did w C g K q c) := by
  obtain ⟨z, p, h⟩ := h
  obtain ⟨w1, s, hw, hs, M, O, i0, i1, i2, i3, i4⟩ := h.boxed op a b d n
  have hl := M.lt
  have zz := M.frozen
  have ka := M.kr a ha
  have la : (a : Int) < 16 := by omega
  have MN := Lib.hid (fun k => M.drewN k)
  have ON := Lib.hid (fun k => O.drewN k)
  clear h M O
  generalize q.regs (a : Int) = va at *

  unfold insR
  go_enter Try.func70, Try.ntmps70
  go_wp2_with fail
  rw [← hw, ← hs]
  clear hw hs
  go_quiet (fail)
  go_wp2_with fail
  go_end0
  exact ⟨rfl, ⟨z, p, MN.out _⟩, ON.out _⟩
set_option maxRecDepth 100000 in
set_option maxHeartbeats 8000000 in
theorem mtrapBound_neg (w : World) (C : Nat → Prop) (g : Nat) (K : MK) (q : MQ) (c : Nat) (h : MAt w C g K q c) (op : Int) (a b d : Nat) (n : Int) (ha : a < 16) (hb : b < 16) (ht : q.regs a < 0) : Calls Try.prog 71 #[.pointer (some ⟨g, 0, none⟩), insR op a b d n] w (Stops w C g K q c 2 n 0) := by
  obtain ⟨z, p, h⟩ := h
  obtain ⟨w1, s, hw, hs, M, O, i0, i1, i2, i3, i4⟩ := h.boxed op a b d n
  have hl := M.lt
  have zz := M.frozen
  have ka := M.kr a ha
  have la : (a : Int) < 16 := by omega
  have kb := M.kr b hb
  have lb : (b : Int) < 16 := by omega
  have MN := Lib.hid (fun k => M.drewN k)
  have ON := Lib.hid (fun k => O.drewN k)
  clear h M O
  generalize q.regs (a : Int) = va at *
  generalize q.regs (b : Int) = vb at *
  have hd1 : decide (va < 0) = true := decide_eq_true ht
  unfold insR
  go_enter Try.func71, Try.ntmps71
  go_wp2_with fail
  rw [← hw, ← hs]
  clear hw hs
  go_quiet (fail)
  go_wp2_with (go_at_call 100; refine (stop_c _ _ _ _).mono ?_; rintro e w3 ⟨rfl, hw3⟩; subst hw3)
  exact ⟨rfl, rfl, ⟨z, p, MN.out _⟩, ON.out _⟩
set_option maxRecDepth 100000 in
set_option maxHeartbeats 8000000 in
theorem mtrapBound_out (w : World) (C : Nat → Prop) (g : Nat) (K : MK) (q : MQ) (c : Nat) (h : MAt w C g K q c) (op : Int) (a b d : Nat) (n : Int) (ha : a < 16) (hb : b < 16) (ht : ¬ q.regs a < 0 ∧ q.regs b ≤ q.regs a) : Calls Try.prog 71 #[.pointer (some ⟨g, 0, none⟩), insR op a b d n] w (Stops w C g K q c 2 n 0) := by
  obtain ⟨z, p, h⟩ := h
  obtain ⟨w1, s, hw, hs, M, O, i0, i1, i2, i3, i4⟩ := h.boxed op a b d n
  have hl := M.lt
  have zz := M.frozen
  have ka := M.kr a ha
  have la : (a : Int) < 16 := by omega
  have kb := M.kr b hb
  have lb : (b : Int) < 16 := by omega
  have MN := Lib.hid (fun k => M.drewN k)
  have ON := Lib.hid (fun k => O.drewN k)
  clear h M O
  generalize q.regs (a : Int) = va at *
  generalize q.regs (b : Int) = vb at *
  have hd1 : decide (va < 0) = false := decide_eq_false ht.1
  have hd2 := ht.2
  unfold insR
  go_enter Try.func71, Try.ntmps71
  go_wp2_with fail
  rw [← hw, ← hs]
  clear hw hs
  go_quiet (fail)
  go_wp2_with (go_at_call 100; refine (stop_c _ _ _ _).mono ?_; rintro e w3 ⟨rfl, hw3⟩; subst hw3)
  exact ⟨rfl, rfl, ⟨z, p, MN.out _⟩, ON.out _⟩
set_option maxRecDepth 100000 in
set_option maxHeartbeats 8000000 in
theorem mtrapBound_ok (w : World) (C : Nat → Prop) (g : Nat) (K : MK) (q : MQ) (c : Nat) (h : MAt w C g K q c) (op : Int) (a b d : Nat) (n : Int) (ha : a < 16) (hb : b < 16) (ht : ¬ q.regs a < 0 ∧ q.regs a < q.regs b) : Calls Try.prog 71 #[.pointer (some ⟨g, 0, none⟩), insR op a b d n] w (Did w C g K q c) := by
  obtain ⟨z, p, h⟩ := h
  obtain ⟨w1, s, hw, hs, M, O, i0, i1, i2, i3, i4⟩ := h.boxed op a b d n
  have hl := M.lt
  have zz := M.frozen
  have ka := M.kr a ha
  have la : (a : Int) < 16 := by omega
  have kb := M.kr b hb
  have lb : (b : Int) < 16 := by omega
  have MN := Lib.hid (fun k => M.drewN k)
  have ON := Lib.hid (fun k => O.drewN k)
  clear h M O
  generalize q.regs (a : Int) = va at *
  generalize q.regs (b : Int) = vb at *
  have hd1 : decide (va < 0) = false := decide_eq_false ht.1
  have hd2 := ht.2
  unfold insR
  go_enter Try.func71, Try.ntmps71
  go_wp2_with fail
  rw [← hw, ← hs]
  clear hw hs
  go_quiet (fail)
  go_wp2_with fail
  go_end0
  exact ⟨rfl, ⟨z, p, MN.out _⟩, ON.out _⟩
set_option maxRecDepth 100000 in
set_option maxHeartbeats 8000000 in
theorem mtrap_n (w : World) (C : Nat → Prop) (g : Nat) (K : MK) (q : MQ) (c : Nat) (h : MAt w C g K q c) (op : Int) (a b d : Nat) (n : Int) (ha : a < 16) (ht : ¬ n = 6) : Calls Try.prog 72 #[.pointer (some ⟨g, 0, none⟩), insR op a b d n] w (Stops w C g K q c 2 n 0) := by
  obtain ⟨z, p, h⟩ := h
  obtain ⟨w1, s, hw, hs, M, O, i0, i1, i2, i3, i4⟩ := h.boxed op a b d n
  have hl := M.lt
  have zz := M.frozen
  have MN := Lib.hid M
  have ON := Lib.hid O
  clear h M O
  have ht' : (n != 6) = true := bne_iff_ne.2 ht
  unfold insR
  go_enter Try.func72, Try.ntmps72
  subst hs
  subst hw
  go_wp2_with (go_at_call 100; refine (stop_c _ _ _ _).mono ?_; rintro e w3 ⟨rfl, hw3⟩; subst hw3)
  exact ⟨rfl, rfl, ⟨z, p, MN.out⟩, ON.out⟩
set_option maxRecDepth 100000 in
set_option maxHeartbeats 8000000 in
theorem mtrap_6 (w : World) (C : Nat → Prop) (g : Nat) (K : MK) (q : MQ) (c : Nat) (h : MAt w C g K q c) (op : Int) (a b d : Nat) (n : Int) (ha : a < 16) (ht : n = 6) : Calls Try.prog 72 #[.pointer (some ⟨g, 0, none⟩), insR op a b d n] w (Stops w C g K q c 2 6 (q.regs a)) := by
  obtain ⟨z, p, h⟩ := h
  obtain ⟨w1, s, hw, hs, M, O, i0, i1, i2, i3, i4⟩ := h.boxed op a b d n
  have hl := M.lt
  have zz := M.frozen
  have ka := M.kr a ha
  have la : (a : Int) < 16 := by omega
  have MN := Lib.hid M
  have ON := Lib.hid O
  clear h M O
  subst ht
  have e1 : Hid (Stops w C g K q c 2 6 (q.regs a) = fun e w' => e = .panicked [{ v := endV 2 6 (q.regs a), recovered := false }] ∧ MAt w' C g K q c ∧ Only C w w') := rfl
  rw [e1.out]
  clear e1
  generalize q.regs (a : Int) = va at *
  have SC := Lib.hid (fun w' => stop_c 2 6 va w')
  unfold insR
  go_enter Try.func72, Try.ntmps72
  subst hs
  subst hw
  go_wp2_with fail
  generalize w.alloc _ = w1 at *
  generalize w.heap.size = s at *
  refine wp_region_held_drew (S := (fun w' => w'.cell? ⟨s, 1, none⟩ = some (.int .i64 a) ∧ w'.cell? ⟨s, 4, none⟩ = some (.int .i64 6) ∧ w'.cell? ⟨g, 45 + a, none⟩ = some (.int .i64 va))) (by kernel_rfl) (⟨i1, i4, ka⟩) (fun hHeld => ?_)
  refine wpAnyH_take (i := 0) (v := ?_) (by simp only [List.getElem?_toArray, List.getElem?_cons_succ, List.getElem?_cons_zero]; rfl) (by kernel_rfl) (by kernel_rfl) (by kernel_rfl) (by exact fun _ _ _ h => h) (Or.inl ⟨by rfl, ?_⟩) (by assumption) ?_
  rotate_left
  · (intro w hSw; (try dsimp only at hSw); go_simp; with_reducible rfl)
  try simp only [Act.put, List.setIfInBounds_toArray, List.set_cons_zero, List.set_cons_succ]
  refine wpAnyH_take (i := 1) (v := ?_) (by simp only [List.getElem?_toArray, List.getElem?_cons_succ, List.getElem?_cons_zero]; rfl) (by kernel_rfl) (by kernel_rfl) (by kernel_rfl) (by exact fun _ _ _ h => h) (Or.inl ⟨by rfl, ?_⟩) (by assumption) ?_
  rotate_left
  · (intro w hSw; (try dsimp only at hSw); go_simp; with_reducible rfl)
  try simp only [Act.put, List.setIfInBounds_toArray, List.set_cons_zero, List.set_cons_succ]
  refine wpAnyH_take (i := 2) (v := ?_) (by simp only [List.getElem?_toArray, List.getElem?_cons_succ, List.getElem?_cons_zero]; rfl) (by kernel_rfl) (by kernel_rfl) (by kernel_rfl) (by exact fun _ _ _ h => h) (Or.inl ⟨by rfl, ?_⟩) (by assumption) ?_
  rotate_left
  · (intro w hSw; (try dsimp only at hSw); go_simp; with_reducible rfl)
  try simp only [Act.put, List.setIfInBounds_toArray, List.set_cons_zero, List.set_cons_succ]
  refine wpAnyH_take (i := 3) (v := ?_) (by simp only [List.getElem?_toArray, List.getElem?_cons_succ, List.getElem?_cons_zero]; rfl) (by kernel_rfl) (by kernel_rfl) (by kernel_rfl) (by exact fun _ _ _ h => h) (Or.inl ⟨by rfl, ?_⟩) (by assumption) ?_
  rotate_left
  · (intro w hSw; (try dsimp only at hSw); go_simp; with_reducible rfl)
  try simp only [Act.put, List.setIfInBounds_toArray, List.set_cons_zero, List.set_cons_succ]
  refine wpAnyH_take (i := 4) (v := ?_) (by simp only [List.getElem?_toArray, List.getElem?_cons_succ, List.getElem?_cons_zero]; rfl) (by kernel_rfl) (by kernel_rfl) (by kernel_rfl) (by exact fun _ _ _ h => h) (Or.inl ⟨by rfl, ?_⟩) (by assumption) ?_
  rotate_left
  · (intro w hSw; (try dsimp only at hSw); go_simp; with_reducible rfl)
  try simp only [Act.put, List.setIfInBounds_toArray, List.set_cons_zero, List.set_cons_succ]
  refine wpAnyH_take (i := 5) (v := ?_) (by simp only [List.getElem?_toArray, List.getElem?_cons_succ, List.getElem?_cons_zero]; rfl) (by kernel_rfl) (by kernel_rfl) (by kernel_rfl) (by exact fun _ _ _ h => h) (Or.inl ⟨by rfl, ?_⟩) (by assumption) ?_
  rotate_left
  · (intro w hSw; (try dsimp only at hSw); go_simp; with_reducible rfl)
  try simp only [Act.put, List.setIfInBounds_toArray, List.set_cons_zero, List.set_cons_succ]
  refine wpAnyH_take (i := 6) (v := ?_) (by simp only [List.getElem?_toArray, List.getElem?_cons_succ, List.getElem?_cons_zero]; rfl) (by kernel_rfl) (by kernel_rfl) (by kernel_rfl) (by exact fun _ _ _ h => h) (Or.inl ⟨by rfl, ?_⟩) (by assumption) ?_
  rotate_left
  · (intro w hSw; (try dsimp only at hSw); go_simp; with_reducible rfl)
  try simp only [Act.put, List.setIfInBounds_toArray, List.set_cons_zero, List.set_cons_succ]
  refine wpAnyH_take (i := 7) (v := ?_) (by simp only [List.getElem?_toArray, List.getElem?_cons_succ, List.getElem?_cons_zero]; rfl) (by kernel_rfl) (by kernel_rfl) (by kernel_rfl) (by exact fun _ _ _ h => h) (Or.inl ⟨by rfl, ?_⟩) (by assumption) ?_
  rotate_left
  · (intro w hSw; (try dsimp only at hSw); go_simp; with_reducible rfl)
  try simp only [Act.put, List.setIfInBounds_toArray, List.set_cons_zero, List.set_cons_succ]
  refine wpAnyH_take (i := 8) (v := ?_) (by simp only [List.getElem?_toArray, List.getElem?_cons_succ, List.getElem?_cons_zero]; rfl) (by kernel_rfl) (by kernel_rfl) (by kernel_rfl) (by exact fun _ _ _ h => h) (Or.inl ⟨by rfl, ?_⟩) (by assumption) ?_
  rotate_left
  · (intro w hSw; (try dsimp only at hSw); go_simp; with_reducible rfl)
  try simp only [Act.put, List.setIfInBounds_toArray, List.set_cons_zero, List.set_cons_succ]
  refine wpAnyH_ready (rs := [9]) (by kernel_rfl) (by simp) ?_
  refine AllReadyH.cons (by simp only [List.getElem?_toArray, List.getElem?_cons_succ, List.getElem?_cons_zero]; rfl) (fun K hK => ?_) AllReadyH.nil
  go_simp
  go_at_call 100
  refine (SC.out _).mono ?_
  rintro e w2 ⟨rfl, hw2⟩
  subst hw2
  exact ⟨rfl, rfl, ⟨z, p, MN.out.drew⟩, ON.out.drew⟩
end Go.Proofs.Ytkjfbojmkkdgoaa
