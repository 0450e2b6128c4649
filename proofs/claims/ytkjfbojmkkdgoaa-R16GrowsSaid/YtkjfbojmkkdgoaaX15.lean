/- r16's Step. -/
import Derived.Test.YtkjfbojmkkdgoaaX14
import Derived.Recover
import Derived.Defers
import Derived.Laws.Pointers
import Derived.RegionTactic
import Derived.BigRegion
set_option linter.unusedVariables false
set_option linter.unusedSimpArgs false
namespace Go.Proofs.Ytkjfbojmkkdgoaa
open Go.RowKit
attribute [local go_sem ↓] Go.wp_at_zero Go.wp_at_succ
set_option maxRecDepth 100000 in
set_option maxHeartbeats 8000000 in
theorem catch_idle (p : Addr) (w : World) :
    CallsD Try.prog 38 #[.pointer (some p)] .returning w fun e u' w' => e = .returned (.tuple #[]) ∧ u' = .returning ∧ w' = w := by
  refine callsD_of_wpS Try.func38 rfl fun c₀ cs hu => ?_
  apply wpS_seq
  generalize hX : Exit.thenS _ _ = X
  apply wpS_region
  simp [wpOpsS, go_sem, recoverD, hu, Try.ntmps38]
  subst hX
  simp only [Exit.thenS]
  refine wpS_of_wp ?_
  rw [show #[Value.pointer (some p)] ++ (Array.replicate 27 undef).setIfInBounds 3 Value.nilIface = #[Value.pointer (some p), undef, undef, undef, Value.nilIface, undef, undef, undef, undef, undef, undef, undef, undef, undef, undef, undef, undef, undef, undef, undef, undef, undef, undef, undef, undef, undef, undef, undef] from by apply Array.ext'; simp [List.replicate]]
  generalize hQ : (fun (e : Exit) (a' : Act) (w' : World) => bodyPostS Try.prog Try.f38 c₀ cs _ e a' (c₀ :: cs) w') = Q
  have HQ := Lib.hid hQ
  have HU := Lib.hid hu
  clear hQ hu
  go_wp2_with fail
  rw [← HQ.out]
  cases c₀
  have hu := HU.out
  simp_all [bodyPostS, results, Try.results38]
theorem assert_ended (X : Value) (w : World) : (Instr.typeAssert (.iface 90 X) 20 90 true).run Try.prog w = .ok (.tuple #[X, .bool true]) w := by kernel_rfl
set_option maxRecDepth 100000 in
set_option maxHeartbeats 8000000 in
theorem catch_stop (w : World) (C : Nat → Prop) (g : Nat) (K : MK) (q : MQ) (c : Nat) (h : MAt w C g K q c) (s0 : Nat) (hsg : g ≠ s0) (hs0 : w.cell? ⟨s0, 0, none⟩ = some (.pointer (some ⟨g, 0, none⟩))) (a b v : Int) :
    CallsD Try.prog 38 #[.pointer (some ⟨s0, 0, none⟩)] (.panicking [{ v := endV a b v, recovered := false }]) w fun e u' w' => e = .returned (.tuple #[]) ∧ u' = .panicking [{ v := endV a b v, recovered := true }] ∧ MAt w' C g K (q.fins a b v) c ∧ Only C w w' := by
  obtain ⟨z, p, h⟩ := h
  have k69 := h.k69
  have k70 := h.k70
  have k71 := h.k71
  have zz := h.frozen
  have hl := h.lt
  have H := Lib.hid h
  clear h
  unfold endV
  refine callsD_of_wpS Try.func38 rfl fun c₀ cs hu => ?_
  apply wpS_seq
  generalize hX : Exit.thenS _ _ = X
  apply wpS_region
  simp [wpOpsS, go_sem, recoverD, hu, Try.ntmps38]
  subst hX
  simp only [Exit.thenS]
  refine wpS_of_wp ?_
  rw [show #[Value.pointer (some (⟨s0, 0, none⟩ : Addr))] ++ (Array.replicate 27 undef).setIfInBounds 3 (Value.iface 90 (Value.agg #[Value.int IntKind.i64 a, Value.int IntKind.i64 b, Value.int IntKind.i64 v])) = #[Value.pointer (some (⟨s0, 0, none⟩ : Addr)), undef, undef, undef, Value.iface 90 (Value.agg #[Value.int IntKind.i64 a, Value.int IntKind.i64 b, Value.int IntKind.i64 v]), undef, undef, undef, undef, undef, undef, undef, undef, undef, undef, undef, undef, undef, undef, undef, undef, undef, undef, undef, undef, undef, undef, undef] from by apply Array.ext'; simp [List.replicate]]
  generalize hQ : (fun (e : Exit) (a' : Act) (w' : World) => bodyPostS Try.prog Try.f38 c₀ cs _ e a' (_ :: cs) w') = Q
  have hP : ∀ ch (a : Act) d v w, Q (.panic ch) (a.put d v) w → Q (.panic ch) a w := fun ch a d v w h => by
    subst hQ
    exact ⟨by have := h.1; cases d <;> simpa [Act.put] using this, h.2⟩
  have HQ := Lib.hid hQ
  have HU := Lib.hid hu
  clear hQ hu
  have hta := assert_ended
  go_wp2_with fail
  have B := Blk.new w 90 #[.int .i64 a, .int .i64 b, .int .i64 v]
  have x0 := B.cell 0
  have x1 := B.cell 1
  have x2 := B.cell 2
  have hs1 : (w.alloc (.cells #[.int .i64 a, .int .i64 b, .int .i64 v] 90)).cell? ⟨s0, 0, none⟩ = some (.pointer (some ⟨g, 0, none⟩)) := (World.cell?_alloc_past _ _ _ (World.block_lt_of_cell? w _ hs0)).trans hs0
  have M1 := H.out.box (.cells #[.int .i64 a, .int .i64 b, .int .i64 v] 90)
  have O1 := (Only.refl C w).alloc (.cells #[.int .i64 a, .int .i64 b, .int .i64 v] 90)
  have hgs : g ≠ w.heap.size := Nat.ne_of_lt hl
  clear k69 k70 k71 zz hs0 B hta H
  generalize w.alloc _ = w1 at *
  generalize w.heap.size = s2 at *
  have k69 := M1.k69
  have k70 := M1.k70
  have k71 := M1.k71
  have zz := M1.frozen
  have MH := Lib.hid ((((M1.put 69 (.int .i64 a) _ (fun f hf => hf.sFin a) rfl rfl rfl rfl rfl).put 70 (.int .i64 b) _ (fun f hf => hf.sKind b) rfl rfl rfl rfl rfl).put 71 (.int .i64 v) _ (fun f hf => hf.sVal v) rfl rfl rfl rfl rfl).drew)
  have OH := Lib.hid ((((O1.cells (p := ⟨g, 69, none⟩) M1.cg (.int .i64 a)).cells (p := ⟨g, 70, none⟩) M1.cg (.int .i64 b)).cells (p := ⟨g, 71, none⟩) M1.cg (.int .i64 v)).drew)
  clear M1 O1
  simp at x0 x1 x2
  have S1 := Lib.hid (show _ ∧ _ ∧ _ ∧ _ from ⟨hs1, x0, x1, x2⟩)
  refine wp_region_held_drew (S := (fun w' => w'.cell? ⟨s0, 0, none⟩ = some (.pointer (some ⟨g, 0, none⟩)) ∧ w'.cell? ⟨s2, 0, none⟩ = some (.int .i64 a) ∧ w'.cell? ⟨s2, 1, none⟩ = some (.int .i64 b) ∧ w'.cell? ⟨s2, 2, none⟩ = some (.int .i64 v))) (by kernel_rfl) (⟨hs1, x0, x1, x2⟩) (fun hHeld => ?_)
  refine wpAnyH_take (i := 0) (v := ?_) (by simp only [List.getElem?_toArray, List.getElem?_cons_succ, List.getElem?_cons_zero]; rfl) (by kernel_rfl) (by kernel_rfl) (by kernel_rfl) (by exact fun _ _ _ h => hP _ _ _ _ _ h) (Or.inl ⟨by rfl, ?_⟩) (by assumption) ?_
  rotate_left
  · (intro w hSw; (try dsimp only at hSw); go_simp; skip; with_reducible rfl)
  try simp only [Act.put, List.setIfInBounds_toArray, List.set_cons_zero, List.set_cons_succ]
  refine wpAnyH_take (i := 1) (v := ?_) (by simp only [List.getElem?_toArray, List.getElem?_cons_succ, List.getElem?_cons_zero]; rfl) (by kernel_rfl) (by kernel_rfl) (by kernel_rfl) (by exact fun _ _ _ h => hP _ _ _ _ _ h) (Or.inl ⟨by rfl, ?_⟩) (by assumption) ?_
  rotate_left
  · (intro w hSw; (try dsimp only at hSw); go_simp; skip; with_reducible rfl)
  try simp only [Act.put, List.setIfInBounds_toArray, List.set_cons_zero, List.set_cons_succ]
  refine wpAnyH_take (i := 2) (v := ?_) (by simp only [List.getElem?_toArray, List.getElem?_cons_succ, List.getElem?_cons_zero]; rfl) (by kernel_rfl) (by kernel_rfl) (by kernel_rfl) (by exact fun _ _ _ h => hP _ _ _ _ _ h) (Or.inl ⟨by rfl, ?_⟩) (by assumption) ?_
  rotate_left
  · (intro w hSw; (try dsimp only at hSw); go_simp; skip; with_reducible rfl)
  try simp only [Act.put, List.setIfInBounds_toArray, List.set_cons_zero, List.set_cons_succ]
  refine wpAnyH_take (i := 3) (v := ?_) (by simp only [List.getElem?_toArray, List.getElem?_cons_succ, List.getElem?_cons_zero]; rfl) (by kernel_rfl) (by kernel_rfl) (by kernel_rfl) (by exact fun _ _ _ h => hP _ _ _ _ _ h) (Or.inl ⟨by rfl, ?_⟩) (by assumption) ?_
  rotate_left
  · (intro w hSw; (try dsimp only at hSw); go_simp; skip; with_reducible rfl)
  try simp only [Act.put, List.setIfInBounds_toArray, List.set_cons_zero, List.set_cons_succ]
  refine wpAnyH_take (i := 4) (v := ?_) (by simp only [List.getElem?_toArray, List.getElem?_cons_succ, List.getElem?_cons_zero]; rfl) (by kernel_rfl) (by kernel_rfl) (by kernel_rfl) (by exact fun _ _ _ h => hP _ _ _ _ _ h) (Or.inl ⟨by rfl, ?_⟩) (by assumption) ?_
  rotate_left
  · (intro w hSw; (try dsimp only at hSw); go_simp; skip; with_reducible rfl)
  try simp only [Act.put, List.setIfInBounds_toArray, List.set_cons_zero, List.set_cons_succ]
  refine wpAnyH_take (i := 5) (v := ?_) (by simp only [List.getElem?_toArray, List.getElem?_cons_succ, List.getElem?_cons_zero]; rfl) (by kernel_rfl) (by kernel_rfl) (by kernel_rfl) (by exact fun _ _ _ h => hP _ _ _ _ _ h) (Or.inl ⟨by rfl, ?_⟩) (by assumption) ?_
  rotate_left
  · (intro w hSw; (try dsimp only at hSw); go_simp; skip; with_reducible rfl)
  try simp only [Act.put, List.setIfInBounds_toArray, List.set_cons_zero, List.set_cons_succ]
  refine wpAnyH_take (i := 6) (v := ?_) (by simp only [List.getElem?_toArray, List.getElem?_cons_succ, List.getElem?_cons_zero]; rfl) (by kernel_rfl) (by kernel_rfl) (by kernel_rfl) (by exact fun _ _ _ h => hP _ _ _ _ _ h) (Or.inl ⟨by rfl, ?_⟩) (by assumption) ?_
  rotate_left
  · (intro w hSw; (try dsimp only at hSw); go_simp; skip; with_reducible rfl)
  try simp only [Act.put, List.setIfInBounds_toArray, List.set_cons_zero, List.set_cons_succ]
  refine wpAnyH_take (i := 7) (v := ?_) (by simp only [List.getElem?_toArray, List.getElem?_cons_succ, List.getElem?_cons_zero]; rfl) (by kernel_rfl) (by kernel_rfl) (by kernel_rfl) (by exact fun _ _ _ h => hP _ _ _ _ _ h) (Or.inl ⟨by rfl, ?_⟩) (by assumption) ?_
  rotate_left
  · (intro w hSw; (try dsimp only at hSw); go_simp; skip; with_reducible rfl)
  try simp only [Act.put, List.setIfInBounds_toArray, List.set_cons_zero, List.set_cons_succ]
  refine wpAnyH_take (i := 8) (v := ?_) (by simp only [List.getElem?_toArray, List.getElem?_cons_succ, List.getElem?_cons_zero]; rfl) (by kernel_rfl) (by kernel_rfl) (by kernel_rfl) (by exact fun _ _ _ h => hP _ _ _ _ _ h) (Or.inl ⟨by rfl, ?_⟩) (by assumption) ?_
  rotate_left
  · (intro w hSw; (try dsimp only at hSw); go_simp; skip; with_reducible rfl)
  try simp only [Act.put, List.setIfInBounds_toArray, List.set_cons_zero, List.set_cons_succ]
  refine wpAnyH_take (i := 9) (v := ?_) (by simp only [List.getElem?_toArray, List.getElem?_cons_succ, List.getElem?_cons_zero]; rfl) (by kernel_rfl) (by kernel_rfl) (by kernel_rfl) (by exact fun _ _ _ h => hP _ _ _ _ _ h) (Or.inl ⟨by rfl, ?_⟩) (by assumption) ?_
  rotate_left
  · (intro w hSw; (try dsimp only at hSw); go_simp; skip; with_reducible rfl)
  try simp only [Act.put, List.setIfInBounds_toArray, List.set_cons_zero, List.set_cons_succ]
  refine wpAnyH_take (i := 10) (v := ?_) (by simp only [List.getElem?_toArray, List.getElem?_cons_succ, List.getElem?_cons_zero]; rfl) (by kernel_rfl) (by kernel_rfl) (by kernel_rfl) (by exact fun _ _ _ h => hP _ _ _ _ _ h) (Or.inl ⟨by rfl, ?_⟩) (by assumption) ?_
  rotate_left
  · (intro w hSw; (try dsimp only at hSw); go_simp; skip; with_reducible rfl)
  try simp only [Act.put, List.setIfInBounds_toArray, List.set_cons_zero, List.set_cons_succ]
  refine wpAnyH_take (i := 11) (v := ?_) (by simp only [List.getElem?_toArray, List.getElem?_cons_succ, List.getElem?_cons_zero]; rfl) (by kernel_rfl) (by kernel_rfl) (by kernel_rfl) (by exact fun _ _ _ h => hP _ _ _ _ _ h) (Or.inl ⟨by rfl, ?_⟩) (by assumption) ?_
  rotate_left
  · (intro w hSw; (try dsimp only at hSw); go_simp; skip; with_reducible rfl)
  try simp only [Act.put, List.setIfInBounds_toArray, List.set_cons_zero, List.set_cons_succ]
  refine wpAnyH_ready (rs := [12]) (by kernel_rfl) (by simp) ?_
  refine AllReadyH.cons (by simp only [List.getElem?_toArray, List.getElem?_cons_succ, List.getElem?_cons_zero]; rfl) (fun K hK => ?_) ?_
  · go_simp
    refine hK.out _ _ (⟨(World.cell?_setCell_other _ _ _ _ (fun hh => hsg (congrArg Addr.block hh))).trans S1.out.1, (World.cell?_setCell_other _ _ _ _ (fun hh => hgs (congrArg Addr.block hh))).trans S1.out.2.1, (World.cell?_setCell_other _ _ _ _ (fun hh => hgs (congrArg Addr.block hh))).trans S1.out.2.2.1, (World.cell?_setCell_other _ _ _ _ (fun hh => hgs (congrArg Addr.block hh))).trans S1.out.2.2.2⟩) (fun hHeld => ?_)
    clear hK K
    try simp only [Act.put, List.setIfInBounds_toArray, List.set_cons_zero, List.set_cons_succ]
    refine wpAnyH_take (i := 13) (v := ?_) (by simp only [List.getElem?_toArray, List.getElem?_cons_succ, List.getElem?_cons_zero]; rfl) (by kernel_rfl) (by kernel_rfl) (by kernel_rfl) (by exact fun _ _ _ h => hP _ _ _ _ _ h) (Or.inl ⟨by rfl, ?_⟩) (by assumption) ?_
    rotate_left
    · (intro w hSw; (try dsimp only at hSw); go_simp; with_reducible rfl)
    try simp only [Act.put, List.setIfInBounds_toArray, List.set_cons_zero, List.set_cons_succ]
    refine wpAnyH_take (i := 14) (v := ?_) (by simp only [List.getElem?_toArray, List.getElem?_cons_succ, List.getElem?_cons_zero]; rfl) (by kernel_rfl) (by kernel_rfl) (by kernel_rfl) (by exact fun _ _ _ h => hP _ _ _ _ _ h) (Or.inl ⟨by rfl, ?_⟩) (by assumption) ?_
    rotate_left
    · (intro w hSw; (try dsimp only at hSw); go_simp; with_reducible rfl)
    try simp only [Act.put, List.setIfInBounds_toArray, List.set_cons_zero, List.set_cons_succ]
    refine wpAnyH_take (i := 15) (v := ?_) (by simp only [List.getElem?_toArray, List.getElem?_cons_succ, List.getElem?_cons_zero]; rfl) (by kernel_rfl) (by kernel_rfl) (by kernel_rfl) (by exact fun _ _ _ h => hP _ _ _ _ _ h) (Or.inl ⟨by rfl, ?_⟩) (by assumption) ?_
    rotate_left
    · (intro w hSw; (try dsimp only at hSw); go_simp; with_reducible rfl)
    try simp only [Act.put, List.setIfInBounds_toArray, List.set_cons_zero, List.set_cons_succ]
    refine wpAnyH_ready (rs := [16]) (by kernel_rfl) (by simp) ?_
    refine AllReadyH.cons (by simp only [List.getElem?_toArray, List.getElem?_cons_succ, List.getElem?_cons_zero]; rfl) (fun K hK => ?_) ?_
    · go_simp
      refine hK.out _ _ (⟨(World.cell?_setCell_other _ _ _ _ (fun hh => hsg (congrArg Addr.block hh))).trans ((World.cell?_setCell_other _ _ _ _ (fun hh => hsg (congrArg Addr.block hh))).trans S1.out.1), (World.cell?_setCell_other _ _ _ _ (fun hh => hgs (congrArg Addr.block hh))).trans ((World.cell?_setCell_other _ _ _ _ (fun hh => hgs (congrArg Addr.block hh))).trans S1.out.2.1), (World.cell?_setCell_other _ _ _ _ (fun hh => hgs (congrArg Addr.block hh))).trans ((World.cell?_setCell_other _ _ _ _ (fun hh => hgs (congrArg Addr.block hh))).trans S1.out.2.2.1), (World.cell?_setCell_other _ _ _ _ (fun hh => hgs (congrArg Addr.block hh))).trans ((World.cell?_setCell_other _ _ _ _ (fun hh => hgs (congrArg Addr.block hh))).trans S1.out.2.2.2)⟩) (fun hHeld => ?_)
      clear hK K
      try simp only [Act.put, List.setIfInBounds_toArray, List.set_cons_zero, List.set_cons_succ]
      refine wpAnyH_take (i := 17) (v := ?_) (by simp only [List.getElem?_toArray, List.getElem?_cons_succ, List.getElem?_cons_zero]; rfl) (by kernel_rfl) (by kernel_rfl) (by kernel_rfl) (by exact fun _ _ _ h => hP _ _ _ _ _ h) (Or.inl ⟨by rfl, ?_⟩) (by assumption) ?_
      rotate_left
      · (intro w hSw; (try dsimp only at hSw); go_simp; with_reducible rfl)
      try simp only [Act.put, List.setIfInBounds_toArray, List.set_cons_zero, List.set_cons_succ]
      refine wpAnyH_take (i := 18) (v := ?_) (by simp only [List.getElem?_toArray, List.getElem?_cons_succ, List.getElem?_cons_zero]; rfl) (by kernel_rfl) (by kernel_rfl) (by kernel_rfl) (by exact fun _ _ _ h => hP _ _ _ _ _ h) (Or.inl ⟨by rfl, ?_⟩) (by assumption) ?_
      rotate_left
      · (intro w hSw; (try dsimp only at hSw); go_simp; with_reducible rfl)
      try simp only [Act.put, List.setIfInBounds_toArray, List.set_cons_zero, List.set_cons_succ]
      refine wpAnyH_take (i := 19) (v := ?_) (by simp only [List.getElem?_toArray, List.getElem?_cons_succ, List.getElem?_cons_zero]; rfl) (by kernel_rfl) (by kernel_rfl) (by kernel_rfl) (by exact fun _ _ _ h => hP _ _ _ _ _ h) (Or.inl ⟨by rfl, ?_⟩) (by assumption) ?_
      rotate_left
      · (intro w hSw; (try dsimp only at hSw); go_simp; with_reducible rfl)
      try simp only [Act.put, List.setIfInBounds_toArray, List.set_cons_zero, List.set_cons_succ]
      refine wpAnyH_ready (rs := [20]) (by kernel_rfl) (by simp) ?_
      refine AllReadyH.cons (by simp only [List.getElem?_toArray, List.getElem?_cons_succ, List.getElem?_cons_zero]; rfl) (fun K hK => ?_) ?_
      · go_simp
        refine hK.out _ _ (⟨(World.cell?_setCell_other _ _ _ _ (fun hh => hsg (congrArg Addr.block hh))).trans ((World.cell?_setCell_other _ _ _ _ (fun hh => hsg (congrArg Addr.block hh))).trans ((World.cell?_setCell_other _ _ _ _ (fun hh => hsg (congrArg Addr.block hh))).trans S1.out.1)), (World.cell?_setCell_other _ _ _ _ (fun hh => hgs (congrArg Addr.block hh))).trans ((World.cell?_setCell_other _ _ _ _ (fun hh => hgs (congrArg Addr.block hh))).trans ((World.cell?_setCell_other _ _ _ _ (fun hh => hgs (congrArg Addr.block hh))).trans S1.out.2.1)), (World.cell?_setCell_other _ _ _ _ (fun hh => hgs (congrArg Addr.block hh))).trans ((World.cell?_setCell_other _ _ _ _ (fun hh => hgs (congrArg Addr.block hh))).trans ((World.cell?_setCell_other _ _ _ _ (fun hh => hgs (congrArg Addr.block hh))).trans S1.out.2.2.1)), (World.cell?_setCell_other _ _ _ _ (fun hh => hgs (congrArg Addr.block hh))).trans ((World.cell?_setCell_other _ _ _ _ (fun hh => hgs (congrArg Addr.block hh))).trans ((World.cell?_setCell_other _ _ _ _ (fun hh => hgs (congrArg Addr.block hh))).trans S1.out.2.2.2))⟩) (fun hHeld => ?_)
        clear hK K
        try simp only [Act.put, List.setIfInBounds_toArray, List.set_cons_zero, List.set_cons_succ]
        refine wpAnyH_done (by kernel_rfl) ?_ _
        go_wp2_with fail
        rw [← HQ.out]
        cases c₀
        have hu := HU.out
        have mh := MH.out
        have oh := OH.out
        simp_all [bodyPostS, results, Try.results38]
        exact ⟨z, p, mh⟩
      exact AllReadyH.nil
    exact AllReadyH.nil
  exact AllReadyH.nil
end Go.Proofs.Ytkjfbojmkkdgoaa
