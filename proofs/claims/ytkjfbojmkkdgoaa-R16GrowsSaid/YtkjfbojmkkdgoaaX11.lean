/- r16's machine: blocks. -/
import Derived.Test.YtkjfbojmkkdgoaaX10
set_option linter.unusedVariables false
set_option linter.unusedSimpArgs false
namespace Go.Proofs.Ytkjfbojmkkdgoaa
open Go.RowKit
attribute [local go_sem ↓] Go.wp_at_zero Go.wp_at_succ
theorem HeapAt.drewN {w : World} {F : Nat → Prop} {g c : Nat} {q : QH} (h : HeapAt w F g c q) (k : Nat) : HeapAt (w.drewN k) F g c q := h.only ((Only.refl (fun _ => False) w).drewN k) fun _ _ _ h => h
theorem HeapAt.box {w : World} {F : Nat → Prop} {g c : Nat} {q : QH} (h : HeapAt w F g c q) (o : Obj) : HeapAt (w.alloc o) F g c q := h.only ((Only.refl (fun _ => False) w).alloc o) fun _ _ _ h => h
set_option maxRecDepth 100000 in
set_option maxHeartbeats 8000000 in
theorem mlength_no (w : World) (C : Nat → Prop) (g : Nat) (K : MK) (q : MQ) (c : Nat) (h : MAt w C g K q c) (op : Int) (a b d : Nat) (n : Int) (hb : b < 16) (hrb : i64in (q.regs b)) (ht : q.hp.lenB (q.regs b) = false) : Calls Try.prog 66 #[.pointer (some ⟨g, 0, none⟩), insR op a b d n] w (Stops w C g K q c 3 1 0) := by
  obtain ⟨z, p, h⟩ := h
  obtain ⟨w1, s, hw, hs, M, O, i0, i1, i2, i3, i4⟩ := h.boxed op a b d n
  have hl := M.lt
  have zz := M.frozen
  have kb := M.kr b hb
  have lb : (b : Int) < 16 := by omega
  have k63 := M.k63
  have LC := Lib.hid (fun n => (hlen_c (w1.drewN n) _ p.hp c q.hp (q.regs (b : Int)) (M.ha.drewN n) hrb).mono (R' := fun e w'' => e = .returned (.tuple #[.int .i64 (q.hp.lenA (q.regs (b : Int))), .bool (q.hp.lenB (q.regs (b : Int)))]) ∧ ∃ m, w'' = w1.drewN m) fun e w' ⟨a, b⟩ => ⟨a, n, b.symm⟩)
  rw [ht] at LC
  have MN := Lib.hid (fun k => M.drewN k)
  have ON := Lib.hid (fun k => O.drewN k)
  clear h M O hrb ht
  generalize q.hp.lenA (q.regs (b : Int)) = n1 at *
  generalize q.regs (b : Int) = vb at *
  unfold insR
  go_enter Try.func66, Try.ntmps66
  go_wp2_with fail
  rw [← hw, ← hs]
  clear hw hs
  go_quiet (exact LC.out _)
  go_wp2_with (go_at_call 100; refine (stop_c _ _ _ _).mono ?_; rintro e w3 ⟨rfl, hw3⟩; subst hw3)
  exact ⟨rfl, rfl, ⟨z, p, MN.out _⟩, ON.out _⟩
set_option maxRecDepth 100000 in
set_option maxHeartbeats 8000000 in
theorem mlength_ok (w : World) (C : Nat → Prop) (g : Nat) (K : MK) (q : MQ) (c : Nat) (h : MAt w C g K q c) (op : Int) (a b d : Nat) (n : Int) (ha : a < 16) (hb : b < 16) (hrb : i64in (q.regs b)) (ht : q.hp.lenB (q.regs b) = true) : Calls Try.prog 66 #[.pointer (some ⟨g, 0, none⟩), insR op a b d n] w (Did w C g K (q.reg a (q.hp.lenA (q.regs b))) c) := by
  obtain ⟨z, p, h⟩ := h
  obtain ⟨w1, s, hw, hs, M, O, i0, i1, i2, i3, i4⟩ := h.boxed op a b d n
  have hl := M.lt
  have zz := M.frozen
  have ka := M.kr a ha
  have la : (a : Int) < 16 := by omega
  have kb := M.kr b hb
  have lb : (b : Int) < 16 := by omega
  have k63 := M.k63
  have LC := Lib.hid (fun n => (hlen_c (w1.drewN n) _ p.hp c q.hp (q.regs (b : Int)) (M.ha.drewN n) hrb).mono (R' := fun e w'' => e = .returned (.tuple #[.int .i64 (q.hp.lenA (q.regs (b : Int))), .bool (q.hp.lenB (q.regs (b : Int)))]) ∧ ∃ m, w'' = w1.drewN m) fun e w' ⟨a, b⟩ => ⟨a, n, b.symm⟩)
  rw [ht] at LC
  have MN := Lib.hid (fun k => (M.drewN k).sreg a ha (q.hp.lenA (q.regs (b : Int))))
  have ON := Lib.hid (fun k => (O.drewN k).cells (p := ⟨g, 45 + a, none⟩) M.cg (.int .i64 (q.hp.lenA (q.regs (b : Int)))))
  clear h M O hrb ht
  generalize q.hp.lenA (q.regs (b : Int)) = n1 at *
  generalize q.regs (b : Int) = vb at *
  unfold insR
  go_enter Try.func66, Try.ntmps66
  go_wp2_with fail
  rw [← hw, ← hs]
  clear hw hs
  go_quiet (exact LC.out _)
  go_wp2_with fail
  go_region
  all_goals go_wp2_with fail
  all_goals go_end0
  all_goals exact ⟨rfl, ⟨z, p, MN.out _⟩, ON.out _⟩
set_option maxRecDepth 100000 in
set_option maxHeartbeats 8000000 in
theorem malloc_neg (w : World) (C : Nat → Prop) (g : Nat) (K : MK) (q : MQ) (c : Nat) (h : MAt w C g K q c) (op : Int) (a b d : Nat) (n : Int) (hb : b < 16) (ht : q.regs b < 0) : Calls Try.prog 65 #[.pointer (some ⟨g, 0, none⟩), insR op a b d n] w (Stops w C g K q c 3 1 0) := by
  obtain ⟨z, p, h⟩ := h
  obtain ⟨w1, s, hw, hs, M, O, i0, i1, i2, i3, i4⟩ := h.boxed op a b d n
  have hl := M.lt
  have zz := M.frozen
  have kb := M.kr b hb
  have lb : (b : Int) < 16 := by omega
  have MN := Lib.hid (fun k => M.drewN k)
  have ON := Lib.hid (fun k => O.drewN k)
  clear h M O
  generalize q.regs (b : Int) = vb at *
  unfold insR
  go_enter Try.func65, Try.ntmps65
  go_wp2_with fail
  rw [← hw, ← hs]
  clear hw hs
  go_quiet (fail)
  go_wp2_with (go_at_call 100; refine (stop_c _ _ _ _).mono ?_; rintro e w3 ⟨rfl, hw3⟩; subst hw3)
  exact ⟨rfl, rfl, ⟨z, p, MN.out _⟩, ON.out _⟩
set_option maxRecDepth 100000 in
set_option maxHeartbeats 8000000 in
theorem malloc_full (w : World) (C : Nat → Prop) (g : Nat) (K : MK) (q : MQ) (c : Nat) (h : MAt w C g K q c) (op : Int) (a b d : Nat) (n : Int) (hb : b < 16) (h0 : 0 ≤ q.hp.tk) (h1 : q.hp.tk ≤ K.hl) (h2 : K.hl ≤ 1099511627776) (ht : ¬ q.regs b < 0) (ht2 : K.hl - q.hp.tk ≤ q.regs b) : Calls Try.prog 65 #[.pointer (some ⟨g, 0, none⟩), insR op a b d n] w (Stops w C g K q c 2 8 0) := by
  obtain ⟨z, p, h⟩ := h
  obtain ⟨w1, s, hw, hs, M, O, i0, i1, i2, i3, i4⟩ := h.boxed op a b d n
  have hl := M.lt
  have zz := M.frozen
  have kb := M.kr b hb
  have lb : (b : Int) < 16 := by omega
  have k63 := M.k63
  have k5 := M.k5
  have WQ := Lib.hid (fun n m' => (hwords_c (w1.drewN (n + m')) _ p.hp c q.hp (M.ha.drewN (n + m'))).mono (R' := fun e w'' => e = .returned (.int .i64 q.hp.tk) ∧ ∃ m, w'' = w1.drewN (n + m)) fun e w' ⟨a, b⟩ => ⟨a, m', b.symm⟩)
  have MN := Lib.hid (fun k => M.drewN k)
  have ON := Lib.hid (fun k => O.drewN k)
  clear h M O
  generalize q.regs (b : Int) = vb at *
  generalize q.hp.tk = tk at *
  unfold insR
  go_enter Try.func65, Try.ntmps65
  go_wp2_with fail
  rw [← hw, ← hs]
  clear hw hs
  go_quiet (fail)
  go_wp2_with fail
  go_quiet (exact WQ.out _ _)
  go_wp2_with (go_at_call 100; refine (stop_c _ _ _ _).mono ?_; rintro e w3 ⟨rfl, hw3⟩; subst hw3)
  exact ⟨rfl, rfl, ⟨z, p, MN.out _⟩, ON.out _⟩
set_option maxRecDepth 100000 in
set_option maxHeartbeats 8000000 in
theorem malloc_ok (w : World) (C : Nat → Prop) (g : Nat) (K : MK) (q : MQ) (c : Nat) (h : MAt w C g K q c) (op : Int) (a b d : Nat) (n : Int) (ha : a < 16) (hb : b < 16) (hc : c < 9000000000000) (h0 : 0 ≤ q.hp.tk) (h1 : q.hp.tk ≤ K.hl) (h2 : K.hl ≤ 1099511627776) (ht : ¬ q.regs b < 0) (ht2 : ¬ K.hl - q.hp.tk ≤ q.regs b) : Calls Try.prog 65 #[.pointer (some ⟨g, 0, none⟩), insR op a b d n] w (Did w C g K ({ q with hp := q.hp.make (q.regs b) }.reg a (q.hp.tk + 1)) (c + 1)) := by
  obtain ⟨z0, p, h⟩ := h
  obtain ⟨w1, s, z, hw, hs, ls, M, O, i0, i1, i2, i3, i4⟩ := h.boxed2 op a b d n
  have hl := M.lt
  have zz := M.frozen
  have ka := M.kr a ha
  have la : (a : Int) < 16 := by omega
  have kb := M.kr b hb
  have lb : (b : Int) < 16 := by omega
  have k63 := M.k63
  have k5 := M.k5
  have WQ := Lib.hid (fun n m' => (hwords_c (w1.drewN (n + m')) _ p.hp c q.hp (M.ha.drewN (n + m'))).mono (R' := fun e w'' => e = .returned (.int .i64 q.hp.tk) ∧ ∃ m, w'' = w1.drewN (n + m)) fun e w' ⟨a, b⟩ => ⟨a, m', b.symm⟩)
  have hfit : fitsB q.hp.tk (q.regs b) = true := (fitsB_iff _ _).2 ⟨by omega, by omega⟩
  have hgs : g ≠ s := M.cg.2
  have hs4 : ¬ z s = 4 := fun e => (M.foot s (by omega)).2 rfl
  have hg4 : ¬ z g = 4 := by rw [M.zg]; decide
  have TC := Lib.hid (fun k => (make_yes (w1.drewN k) _ p.hp c q.hp (q.regs b) (M.ha.drewN k) M.hok hc hfit).mono (fun e w' hd => show e = .returned (.tuple #[.int .i64 (q.hp.tk + 1), .bool true]) ∧ Hid (MAt (w'.setCell ⟨g, 45 + a, none⟩ (.int .i64 (q.hp.tk + 1))) C g K ({ q with hp := q.hp.make (q.regs b) }.reg a (q.hp.tk + 1)) (c + 1) ∧ Only C w (w'.setCell ⟨g, 45 + a, none⟩ (.int .i64 (q.hp.tk + 1)))) ∧ w'.cell? ⟨s, 1, none⟩ = some (.int .i64 a) ∧ w'.cell? ⟨g, 63, none⟩ = some (.pointer (some ⟨p.hp, 0, none⟩)) ∧ w'.cell? ⟨g, 45 + a, none⟩ = some (.int .i64 (q.regs a)) ∧ w'.frozen? ⟨g, 45 + a, none⟩ = false from
    have M2 := (M.drewN k).sHp hd.2.2 (Nat.le_succ c) _ hd.2.1 (M.hok.make _)
    ⟨hd.1, ⟨MAt.more ⟨z, p, M2.sreg a ha (q.hp.tk + 1)⟩ fun b _ hb => hb.1, ((O.drewN k).trans hd.2.2 fun b _ hb => (M.foot b (by omega)).1).cells (p := ⟨g, 45 + a, none⟩) M.cg.1 _⟩, (hd.2.2.cell (b := s) (o := 1) ls hs4).trans i1, (hd.2.2.cell (b := g) (o := 63) hl hg4).trans k63, M2.kr a ha, M2.frozen _⟩))
  have DD : Hid (Did w C g K ({ q with hp := q.hp.make (q.regs b) }.reg a (q.hp.tk + 1)) (c + 1) = fun e w' => e = .returned (.tuple #[]) ∧ MAt w' C g K ({ q with hp := q.hp.make (q.regs b) }.reg a (q.hp.tk + 1)) (c + 1) ∧ Only C w w') := rfl
  rw [DD.out]
  clear DD h M O hfit
  generalize ({ q with hp := q.hp.make (q.regs b) } : MQ).reg a (q.hp.tk + 1) = q2 at *
  generalize q.regs (a : Int) = va at *
  generalize q.regs (b : Int) = vb at *
  generalize q.hp.tk = tk at *
  unfold insR
  go_enter Try.func65, Try.ntmps65
  go_wp2_with fail
  rw [← hw, ← hs]
  clear hw hs
  go_quiet (fail)
  go_wp2_with fail
  go_quiet (exact WQ.out _ _)
  go_wp2_with fail
  refine wp_region_held_drew (S := (fun w' => w'.cell? ⟨s, 1, none⟩ = some (.int .i64 a) ∧ w'.cell? ⟨g, 63, none⟩ = some (.pointer (some ⟨p.hp, 0, none⟩)))) (by kernel_rfl) (⟨i1, k63⟩) (fun hHeld => ?_)
  refine wpAnyH_take (i := 0) (v := ?_) (by simp only [List.getElem?_toArray, List.getElem?_cons_succ, List.getElem?_cons_zero]; rfl) (by kernel_rfl) (by kernel_rfl) (by kernel_rfl) (by exact fun _ _ _ h => h) (Or.inl ⟨by rfl, ?_⟩) (by assumption) ?_
  rotate_left
  · (intro w hSw; (try dsimp only at hSw); go_simp; skip; with_reducible rfl)
  try simp only [Act.put, List.setIfInBounds_toArray, List.set_cons_zero, List.set_cons_succ]
  refine wpAnyH_take (i := 1) (v := ?_) (by simp only [List.getElem?_toArray, List.getElem?_cons_succ, List.getElem?_cons_zero]; rfl) (by kernel_rfl) (by kernel_rfl) (by kernel_rfl) (by exact fun _ _ _ h => h) (Or.inl ⟨by rfl, ?_⟩) (by assumption) ?_
  rotate_left
  · (intro w hSw; (try dsimp only at hSw); go_simp; skip; with_reducible rfl)
  try simp only [Act.put, List.setIfInBounds_toArray, List.set_cons_zero, List.set_cons_succ]
  refine wpAnyH_take (i := 2) (v := ?_) (by simp only [List.getElem?_toArray, List.getElem?_cons_succ, List.getElem?_cons_zero]; rfl) (by kernel_rfl) (by kernel_rfl) (by kernel_rfl) (by exact fun _ _ _ h => h) (Or.inl ⟨by rfl, ?_⟩) (by assumption) ?_
  rotate_left
  · (intro w hSw; (try dsimp only at hSw); go_simp; skip; with_reducible rfl)
  try simp only [Act.put, List.setIfInBounds_toArray, List.set_cons_zero, List.set_cons_succ]
  refine wpAnyH_take (i := 3) (v := ?_) (by simp only [List.getElem?_toArray, List.getElem?_cons_succ, List.getElem?_cons_zero]; rfl) (by kernel_rfl) (by kernel_rfl) (by kernel_rfl) (by exact fun _ _ _ h => h) (Or.inl ⟨by rfl, ?_⟩) (by assumption) ?_
  rotate_left
  · (intro w hSw; (try dsimp only at hSw); go_simp; skip; with_reducible rfl)
  try simp only [Act.put, List.setIfInBounds_toArray, List.set_cons_zero, List.set_cons_succ]
  refine wpAnyH_take (i := 4) (v := ?_) (by simp only [List.getElem?_toArray, List.getElem?_cons_succ, List.getElem?_cons_zero]; rfl) (by kernel_rfl) (by kernel_rfl) (by kernel_rfl) (by exact fun _ _ _ h => h) (Or.inl ⟨by rfl, ?_⟩) (by assumption) ?_
  rotate_left
  · (intro w hSw; (try dsimp only at hSw); go_simp; skip; with_reducible rfl)
  try simp only [Act.put, List.setIfInBounds_toArray, List.set_cons_zero, List.set_cons_succ]
  refine wpAnyH_take (i := 5) (v := ?_) (by simp only [List.getElem?_toArray, List.getElem?_cons_succ, List.getElem?_cons_zero]; rfl) (by kernel_rfl) (by kernel_rfl) (by kernel_rfl) (by exact fun _ _ _ h => h) (Or.inl ⟨by rfl, ?_⟩) (by assumption) ?_
  rotate_left
  · (intro w hSw; (try dsimp only at hSw); go_simp; skip; with_reducible rfl)
  try simp only [Act.put, List.setIfInBounds_toArray, List.set_cons_zero, List.set_cons_succ]
  refine wpAnyH_take (i := 6) (v := ?_) (by simp only [List.getElem?_toArray, List.getElem?_cons_succ, List.getElem?_cons_zero]; rfl) (by kernel_rfl) (by kernel_rfl) (by kernel_rfl) (by exact fun _ _ _ h => h) (Or.inl ⟨by rfl, ?_⟩) (by assumption) ?_
  rotate_left
  · (intro w hSw; (try dsimp only at hSw); go_simp; skip; with_reducible rfl)
  try simp only [Act.put, List.setIfInBounds_toArray, List.set_cons_zero, List.set_cons_succ]
  refine wpAnyH_take (i := 7) (v := ?_) (by simp only [List.getElem?_toArray, List.getElem?_cons_succ, List.getElem?_cons_zero]; rfl) (by kernel_rfl) (by kernel_rfl) (by kernel_rfl) (by exact fun _ _ _ h => h) (Or.inl ⟨by rfl, ?_⟩) (by assumption) ?_
  rotate_left
  · (intro w hSw; (try dsimp only at hSw); go_simp; skip; with_reducible rfl)
  try simp only [Act.put, List.setIfInBounds_toArray, List.set_cons_zero, List.set_cons_succ]
  refine wpAnyH_take (i := 12) (v := ?_) (by simp only [List.getElem?_toArray, List.getElem?_cons_succ, List.getElem?_cons_zero]; rfl) (by kernel_rfl) (by kernel_rfl) (by kernel_rfl) (by exact fun _ _ _ h => h) (Or.inl ⟨by rfl, ?_⟩) (by assumption) ?_
  rotate_left
  · (intro w hSw; (try dsimp only at hSw); go_simp; skip; with_reducible rfl)
  try simp only [Act.put, List.setIfInBounds_toArray, List.set_cons_zero, List.set_cons_succ]
  refine wpAnyH_take (i := 13) (v := ?_) (by simp only [List.getElem?_toArray, List.getElem?_cons_succ, List.getElem?_cons_zero]; rfl) (by kernel_rfl) (by kernel_rfl) (by kernel_rfl) (by exact fun _ _ _ h => h) (Or.inl ⟨by rfl, ?_⟩) (by assumption) ?_
  rotate_left
  · (intro w hSw; (try dsimp only at hSw); go_simp; skip; with_reducible rfl)
  try simp only [Act.put, List.setIfInBounds_toArray, List.set_cons_zero, List.set_cons_succ]
  refine wpAnyH_ready (rs := [8]) (by kernel_rfl) (by simp) ?_
  refine AllReadyH.cons (by simp only [List.getElem?_toArray, List.getElem?_cons_succ, List.getElem?_cons_zero]; rfl) (fun K hK => ?_) ?_
  · go_simp
    go_at_call 103
    refine (TC.out _).mono ?_
    rintro e w2 ⟨rfl, HF, i12, k632, ka2, za2⟩
    go_wp2_with fail
    refine hK.out _ _ (⟨i12, k632⟩) (fun hHeld => ?_)
    clear hK K
    try simp only [Act.put, List.setIfInBounds_toArray, List.set_cons_zero, List.set_cons_succ]
    refine wpAnyH_take (i := 9) (v := ?_) (by simp only [List.getElem?_toArray, List.getElem?_cons_succ, List.getElem?_cons_zero]; rfl) (by kernel_rfl) (by kernel_rfl) (by kernel_rfl) (by exact fun _ _ _ h => h) (Or.inl ⟨by rfl, ?_⟩) (by assumption) ?_
    rotate_left
    · (intro w hSw; (try dsimp only at hSw); go_simp; with_reducible rfl)
    try simp only [Act.put, List.setIfInBounds_toArray, List.set_cons_zero, List.set_cons_succ]
    refine wpAnyH_take (i := 10) (v := ?_) (by simp only [List.getElem?_toArray, List.getElem?_cons_succ, List.getElem?_cons_zero]; rfl) (by kernel_rfl) (by kernel_rfl) (by kernel_rfl) (by exact fun _ _ _ h => h) (Or.inl ⟨by rfl, ?_⟩) (by assumption) ?_
    rotate_left
    · (intro w hSw; (try dsimp only at hSw); go_simp; with_reducible rfl)
    try simp only [Act.put, List.setIfInBounds_toArray, List.set_cons_zero, List.set_cons_succ]
    refine wpAnyH_take (i := 11) (v := ?_) (by simp only [List.getElem?_toArray, List.getElem?_cons_succ, List.getElem?_cons_zero]; rfl) (by kernel_rfl) (by kernel_rfl) (by kernel_rfl) (by exact fun _ _ _ h => h) (Or.inl ⟨by rfl, ?_⟩) (by assumption) ?_
    rotate_left
    · (intro w hSw; (try dsimp only at hSw); go_simp; with_reducible rfl)
    try simp only [Act.put, List.setIfInBounds_toArray, List.set_cons_zero, List.set_cons_succ]
    refine wpAnyH_take (i := 14) (v := ?_) (by simp only [List.getElem?_toArray, List.getElem?_cons_succ, List.getElem?_cons_zero]; rfl) (by kernel_rfl) (by kernel_rfl) (by kernel_rfl) (by exact fun _ _ _ h => h) (Or.inl ⟨by rfl, ?_⟩) (by assumption) ?_
    rotate_left
    · (intro w hSw; (try dsimp only at hSw); go_simp; with_reducible rfl)
    try simp only [Act.put, List.setIfInBounds_toArray, List.set_cons_zero, List.set_cons_succ]
    refine wpAnyH_ready (rs := [15]) (by kernel_rfl) (by simp) ?_
    refine AllReadyH.cons (by simp only [List.getElem?_toArray, List.getElem?_cons_succ, List.getElem?_cons_zero]; rfl) (fun K hK => ?_) ?_
    · go_simp
      refine hK.out _ _ (⟨(World.cell?_setCell_other _ _ _ _ (fun hh => hgs (congrArg Addr.block hh))).trans i12, (World.cell?_setCell_other _ _ _ _ (fun hh => absurd (congrArg Addr.off hh) (by simp; omega))).trans k632⟩) (fun hHeld => ?_)
      clear hK K
      try simp only [Act.put, List.setIfInBounds_toArray, List.set_cons_zero, List.set_cons_succ]
      refine wpAnyH_done (by kernel_rfl) ?_ _
      go_wp2_with fail
      go_end0
      exact ⟨rfl, HF.out⟩
    exact AllReadyH.nil
  exact AllReadyH.nil
set_option maxRecDepth 100000 in
set_option maxHeartbeats 8000000 in
theorem melement_a (w : World) (C : Nat → Prop) (g : Nat) (K : MK) (q : MQ) (c : Nat) (h : MAt w C g K q c) (op : Int) (a b d : Nat) (n : Int) (hb : b < 16) (hd : d < 16) (hrb : i64in (q.regs b)) (ht : q.hp.lenB (q.regs b) = false) : Calls Try.prog 105 #[.pointer (some ⟨g, 0, none⟩), insR op a b d n] w (Stops w C g K q c 3 1 0) := by
  obtain ⟨z, p, h⟩ := h
  obtain ⟨w1, s, hw, hs, M, O, i0, i1, i2, i3, i4⟩ := h.boxed op a b d n
  have hl := M.lt
  have zz := M.frozen
  have kb := M.kr b hb
  have lb : (b : Int) < 16 := by omega
  have kd := M.kr d hd
  have ld : (d : Int) < 16 := by omega
  have k63 := M.k63
  have LC := Lib.hid (fun n => (hlen_c (w1.drewN n) _ p.hp c q.hp (q.regs (b : Int)) (M.ha.drewN n) hrb).mono (R' := fun e w'' => e = .returned (.tuple #[.int .i64 (q.hp.lenA (q.regs (b : Int))), .bool (q.hp.lenB (q.regs (b : Int)))]) ∧ ∃ m, w'' = w1.drewN m) fun e w' ⟨a, b⟩ => ⟨a, n, b.symm⟩)
  rw [ht] at LC
  clear ht
  have MN := Lib.hid (fun k => M.drewN k)
  have ON := Lib.hid (fun k => O.drewN k)
  clear h M O hrb
  generalize q.hp.lenA (q.regs (b : Int)) = n1 at *
  generalize q.regs (b : Int) = vb at *
  generalize q.regs (d : Int) = vd at *
  unfold insR
  go_enter Try.func105, Try.ntmps105
  go_wp2_with fail
  rw [← hw, ← hs]
  clear hw hs
  go_quiet (exact LC.out _)
  go_wp2_with fail
  go_quiet (fail)
  go_wp2_with fail
  refine (stop_c _ _ _ _).mono ?_
  rintro e w3 ⟨rfl, hw3⟩
  subst hw3
  go_wp2_with fail
  exact ⟨rfl, rfl, ⟨z, p, MN.out _⟩, ON.out _⟩
set_option maxRecDepth 100000 in
set_option maxHeartbeats 8000000 in
theorem melement_b (w : World) (C : Nat → Prop) (g : Nat) (K : MK) (q : MQ) (c : Nat) (h : MAt w C g K q c) (op : Int) (a b d : Nat) (n : Int) (hb : b < 16) (hd : d < 16) (hrb : i64in (q.regs b)) (ht : q.hp.lenB (q.regs b) = true) (ht2 : q.regs b = 0) : Calls Try.prog 105 #[.pointer (some ⟨g, 0, none⟩), insR op a b d n] w (Stops w C g K q c 3 1 0) := by
  obtain ⟨z, p, h⟩ := h
  obtain ⟨w1, s, hw, hs, M, O, i0, i1, i2, i3, i4⟩ := h.boxed op a b d n
  have hl := M.lt
  have zz := M.frozen
  have kb := M.kr b hb
  have lb : (b : Int) < 16 := by omega
  have kd := M.kr d hd
  have ld : (d : Int) < 16 := by omega
  have k63 := M.k63
  have LC := Lib.hid (fun n => (hlen_c (w1.drewN n) _ p.hp c q.hp (q.regs (b : Int)) (M.ha.drewN n) hrb).mono (R' := fun e w'' => e = .returned (.tuple #[.int .i64 (q.hp.lenA (q.regs (b : Int))), .bool (q.hp.lenB (q.regs (b : Int)))]) ∧ ∃ m, w'' = w1.drewN m) fun e w' ⟨a, b⟩ => ⟨a, n, b.symm⟩)
  rw [ht] at LC
  clear ht
  have hz : (q.regs (b : Int) == 0) = true := beq_iff_eq.2 ht2
  clear ht2
  have MN := Lib.hid (fun k => M.drewN k)
  have ON := Lib.hid (fun k => O.drewN k)
  clear h M O hrb
  generalize q.hp.lenA (q.regs (b : Int)) = n1 at *
  generalize q.regs (b : Int) = vb at *
  generalize q.regs (d : Int) = vd at *
  unfold insR
  go_enter Try.func105, Try.ntmps105
  go_wp2_with fail
  rw [← hw, ← hs]
  clear hw hs
  go_quiet (exact LC.out _)
  go_wp2_with fail
  go_quiet (fail)
  go_wp2_with fail
  refine (stop_c _ _ _ _).mono ?_
  rintro e w3 ⟨rfl, hw3⟩
  subst hw3
  go_wp2_with fail
  exact ⟨rfl, rfl, ⟨z, p, MN.out _⟩, ON.out _⟩
set_option maxRecDepth 100000 in
set_option maxHeartbeats 8000000 in
theorem melement_c (w : World) (C : Nat → Prop) (g : Nat) (K : MK) (q : MQ) (c : Nat) (h : MAt w C g K q c) (op : Int) (a b d : Nat) (n : Int) (hb : b < 16) (hd : d < 16) (hrb : i64in (q.regs b)) (ht : q.hp.lenB (q.regs b) = true) (ht2 : ¬ q.regs b = 0) (ht3 : q.regs d < 0) : Calls Try.prog 105 #[.pointer (some ⟨g, 0, none⟩), insR op a b d n] w (Stops w C g K q c 3 2 0) := by
  obtain ⟨z, p, h⟩ := h
  obtain ⟨w1, s, hw, hs, M, O, i0, i1, i2, i3, i4⟩ := h.boxed op a b d n
  have hl := M.lt
  have zz := M.frozen
  have kb := M.kr b hb
  have lb : (b : Int) < 16 := by omega
  have kd := M.kr d hd
  have ld : (d : Int) < 16 := by omega
  have k63 := M.k63
  have LC := Lib.hid (fun n => (hlen_c (w1.drewN n) _ p.hp c q.hp (q.regs (b : Int)) (M.ha.drewN n) hrb).mono (R' := fun e w'' => e = .returned (.tuple #[.int .i64 (q.hp.lenA (q.regs (b : Int))), .bool (q.hp.lenB (q.regs (b : Int)))]) ∧ ∃ m, w'' = w1.drewN m) fun e w' ⟨a, b⟩ => ⟨a, n, b.symm⟩)
  rw [ht] at LC
  clear ht
  have hz : (q.regs (b : Int) == 0) = false := beq_eq_false_iff_ne.2 ht2
  clear ht2
  have hd1 : decide (q.regs (d : Int) < 0) = true := decide_eq_true ht3
  have MN := Lib.hid (fun k => M.drewN k)
  have ON := Lib.hid (fun k => O.drewN k)
  clear h M O hrb
  generalize q.hp.lenA (q.regs (b : Int)) = n1 at *
  generalize q.regs (b : Int) = vb at *
  generalize q.regs (d : Int) = vd at *
  unfold insR
  go_enter Try.func105, Try.ntmps105
  go_wp2_with fail
  rw [← hw, ← hs]
  clear hw hs
  go_quiet (exact LC.out _)
  go_wp2_with fail
  go_quiet (fail)
  go_wp2_with fail
  go_quiet (fail)
  go_wp2_with fail
  refine (stop_c _ _ _ _).mono ?_
  rintro e w3 ⟨rfl, hw3⟩
  subst hw3
  go_wp2_with fail
  exact ⟨rfl, rfl, ⟨z, p, MN.out _⟩, ON.out _⟩
set_option maxRecDepth 100000 in
set_option maxHeartbeats 8000000 in
theorem melement_d (w : World) (C : Nat → Prop) (g : Nat) (K : MK) (q : MQ) (c : Nat) (h : MAt w C g K q c) (op : Int) (a b d : Nat) (n : Int) (hb : b < 16) (hd : d < 16) (hrb : i64in (q.regs b)) (ht : q.hp.lenB (q.regs b) = true) (ht2 : ¬ q.regs b = 0) (ht3 : ¬ q.regs d < 0) (ht4 : q.hp.lenA (q.regs b) ≤ q.regs d) : Calls Try.prog 105 #[.pointer (some ⟨g, 0, none⟩), insR op a b d n] w (Stops w C g K q c 3 2 0) := by
  obtain ⟨z, p, h⟩ := h
  obtain ⟨w1, s, hw, hs, M, O, i0, i1, i2, i3, i4⟩ := h.boxed op a b d n
  have hl := M.lt
  have zz := M.frozen
  have kb := M.kr b hb
  have lb : (b : Int) < 16 := by omega
  have kd := M.kr d hd
  have ld : (d : Int) < 16 := by omega
  have k63 := M.k63
  have LC := Lib.hid (fun n => (hlen_c (w1.drewN n) _ p.hp c q.hp (q.regs (b : Int)) (M.ha.drewN n) hrb).mono (R' := fun e w'' => e = .returned (.tuple #[.int .i64 (q.hp.lenA (q.regs (b : Int))), .bool (q.hp.lenB (q.regs (b : Int)))]) ∧ ∃ m, w'' = w1.drewN m) fun e w' ⟨a, b⟩ => ⟨a, n, b.symm⟩)
  rw [ht] at LC
  clear ht
  have hz : (q.regs (b : Int) == 0) = false := beq_eq_false_iff_ne.2 ht2
  clear ht2
  have hd1 : decide (q.regs (d : Int) < 0) = false := decide_eq_false ht3
  have hd2 : decide (q.hp.lenA (q.regs b) ≤ q.regs d) = true := decide_eq_true ht4
  have MN := Lib.hid (fun k => M.drewN k)
  have ON := Lib.hid (fun k => O.drewN k)
  clear h M O hrb
  generalize q.hp.lenA (q.regs (b : Int)) = n1 at *
  generalize q.regs (b : Int) = vb at *
  generalize q.regs (d : Int) = vd at *
  unfold insR
  go_enter Try.func105, Try.ntmps105
  go_wp2_with fail
  rw [← hw, ← hs]
  clear hw hs
  go_quiet (exact LC.out _)
  go_wp2_with fail
  go_quiet (fail)
  go_wp2_with fail
  go_quiet (fail)
  go_wp2_with fail
  refine (stop_c _ _ _ _).mono ?_
  rintro e w3 ⟨rfl, hw3⟩
  subst hw3
  go_wp2_with fail
  exact ⟨rfl, rfl, ⟨z, p, MN.out _⟩, ON.out _⟩
set_option maxRecDepth 100000 in
set_option maxHeartbeats 8000000 in
theorem melement_ok (w : World) (C : Nat → Prop) (g : Nat) (K : MK) (q : MQ) (c : Nat) (h : MAt w C g K q c) (op : Int) (a b d : Nat) (n : Int) (hb : b < 16) (hd : d < 16) (hrb : i64in (q.regs b)) (ht : q.hp.lenB (q.regs b) = true) (ht2 : ¬ q.regs b = 0) (ht3 : ¬ q.regs d < 0) (ht4 : ¬ q.hp.lenA (q.regs b) ≤ q.regs d) : Calls Try.prog 105 #[.pointer (some ⟨g, 0, none⟩), insR op a b d n] w (Did w C g K q c) := by
  obtain ⟨z, p, h⟩ := h
  obtain ⟨w1, s, hw, hs, M, O, i0, i1, i2, i3, i4⟩ := h.boxed op a b d n
  have hl := M.lt
  have zz := M.frozen
  have kb := M.kr b hb
  have lb : (b : Int) < 16 := by omega
  have kd := M.kr d hd
  have ld : (d : Int) < 16 := by omega
  have k63 := M.k63
  have LC := Lib.hid (fun n => (hlen_c (w1.drewN n) _ p.hp c q.hp (q.regs (b : Int)) (M.ha.drewN n) hrb).mono (R' := fun e w'' => e = .returned (.tuple #[.int .i64 (q.hp.lenA (q.regs (b : Int))), .bool (q.hp.lenB (q.regs (b : Int)))]) ∧ ∃ m, w'' = w1.drewN m) fun e w' ⟨a, b⟩ => ⟨a, n, b.symm⟩)
  rw [ht] at LC
  clear ht
  have hz : (q.regs (b : Int) == 0) = false := beq_eq_false_iff_ne.2 ht2
  clear ht2
  have hd1 : decide (q.regs (d : Int) < 0) = false := decide_eq_false ht3
  have hd2 : decide (q.hp.lenA (q.regs b) ≤ q.regs d) = false := decide_eq_false ht4
  have MN := Lib.hid (fun k => M.drewN k)
  have ON := Lib.hid (fun k => O.drewN k)
  clear h M O hrb
  generalize q.hp.lenA (q.regs (b : Int)) = n1 at *
  generalize q.regs (b : Int) = vb at *
  generalize q.regs (d : Int) = vd at *
  unfold insR
  go_enter Try.func105, Try.ntmps105
  go_wp2_with fail
  rw [← hw, ← hs]
  clear hw hs
  go_quiet (exact LC.out _)
  go_wp2_with fail
  go_quiet (fail)
  go_wp2_with fail
  go_quiet (fail)
  go_wp2_with fail
  go_end0
  exact ⟨rfl, ⟨z, p, ((MN.out _).drewN _).drewN _⟩, ((ON.out _).drewN _).drewN _⟩
end Go.Proofs.Ytkjfbojmkkdgoaa
