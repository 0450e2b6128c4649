/- r16's machine: begin, call, ret. -/
import Derived.Test.YtkjfbojmkkdgoaaX9
import Derived.WalkSmall
set_option linter.unusedVariables false
set_option linter.unusedSimpArgs false
namespace Go.Proofs.Ytkjfbojmkkdgoaa
open Go.RowKit
attribute [local go_sem ↓] Go.wp_at_zero Go.wp_at_succ
set_option maxRecDepth 100000 in
set_option maxHeartbeats 8000000 in
theorem mbegin_c (w : World) (C : Nat → Prop) (g : Nat) (K : MK) (q : MQ) (c : Nat) (h : MAt w C g K q c) (hC : ∀ b, w.heap.size ≤ b → C b) (hc : c + 1 < 9000000000000) (f : Nat) (hf : f < K.nf) (fr back caller : Int) (h0 : 0 ≤ fr) (h1 : fr + 1 ≤ 9223372036854775807) (hb : i64in back) (hk : i64in caller) (hlen : q.cl.length < 4398046511104) :
    Calls Try.prog 36 #[.pointer (some ⟨g, 0, none⟩), .int .i64 f, .int .i64 fr, .int .i64 back, .int .i64 caller] w (Did w C g K (q.begin K f fr back caller) (c + 2)) := by
  have A1 := Lib.hid (wset_c w C g K q c h hC fr back h0 (by omega) hb (by omega))
  have A2 := Lib.hid (fun w1 (M1 : MAt w1 C g K { q with st := sset q.st fr back } (c + 1)) (O1 : Only C w w1) => wset_c w1 C g K _ (c + 1) M1 (fun b hb => hC b (Nat.le_trans O1.size hb)) (fr + 1) caller (by omega) h1 hk hc)
  clear h
  go_enter Try.func36, Try.ntmps36
  go_wp2_with fail
  refine A1.out.mono ?_
  rintro e w1 ⟨rfl, M1, O1⟩
  have A3 := Lib.hid (A2.out w1 M1 O1)
  clear A1 A2 M1
  go_wp2_with fail
  refine A3.out.mono ?_
  rintro e w2 ⟨rfl, ⟨z, p, M2⟩, O2⟩
  clear A3
  have O3 := O1.then_ O2
  clear O1 O2
  have k64 : w2.cell? ⟨g, 64, none⟩ = some (.int .i64 q.at_) := M2.k64
  have k65 : w2.cell? ⟨g, 65, none⟩ = some (.int .i64 q.fr) := M2.k65
  have k66 : w2.cell? ⟨g, 66, none⟩ = some (.int .i64 q.sz) := M2.k66
  have zz := M2.frozen
  have k1 := M2.k1
  obtain ⟨fl, hs, b, off, hA, hb7, hbl, c0, c1, c2, c3, c4⟩ := M2.fl.2 f hf
  rw [hA] at k1
  have hbg : b ≠ g := fun e => by rw [e, M2.zg] at hb7; cases hb7
  have hfi : (0 : Int) ≤ (f : Int) := Int.natCast_nonneg _
  have hfn : (f : Int) < (K.nf : Int) := by omega
  have MM := Lib.hid M2
  have OO := Lib.hid O3
  clear M2 O3 hb7 hf
  go_wp2_with fail
  have M3 := Lib.hid (show MZ (((w2.setCell ⟨g, 65, none⟩ (.int .i64 fr)).setCell ⟨g, 66, none⟩ (.int .i64 (K.Fs f).frame)).setCell ⟨g, 64, none⟩ (.int .i64 (K.Fs f).first)).drew C z g p K { q.begin K f fr back caller with cl := q.cl, depth := q.depth } (c + 2) from
    (((MM.out.put 65 (.int .i64 fr) _ (fun x hx => hx.sFr fr) rfl rfl rfl rfl rfl).put 66 (.int .i64 (K.Fs f).frame) _ (fun x hx => hx.sSz _) rfl rfl rfl rfl rfl).put 64 (.int .i64 (K.Fs f).first) _ (fun x hx => hx.sAt _) rfl rfl rfl rfl rfl).drew)
  have O3 := Lib.hid (show Only C w (((w2.setCell ⟨g, 65, none⟩ (.int .i64 fr)).setCell ⟨g, 66, none⟩ (.int .i64 (K.Fs f).frame)).setCell ⟨g, 64, none⟩ (.int .i64 (K.Fs f).first)).drew from
    (((OO.out.cells (p := ⟨g, 65, none⟩) MM.out.cg _).cells (p := ⟨g, 66, none⟩) MM.out.cg _).cells (p := ⟨g, 64, none⟩) MM.out.cg _).drew)
  go_region
  generalize World.drew _ = w3 at *
  clear k64 k65 k66 k1 c0 c1 c2 c3 c4 zz
  have k67 := M3.out.k67
  have zz := M3.out.frozen
  have hgl := M3.out.lt
  have RR := Lib.hid M3.out.ca
  have hg5 : ¬ z g = 5 := by rw [M3.out.zg]; decide
  go_wp2_with (at_builtin; go_must (refine wpList_num rfl (.tmp 55) (.tmp 57) rfl (z := z) (j := 5) p.cv q.cl rfl (RR.out.alloc _) hlen w3.heap.size 1 f rfl (Blk.new _ _ _) ?_); go_must (intro g1 cap1 w4 r1 o1; have R1 := Lib.hid r1; have O1 := Lib.hid o1; have e67 : w4.cell? ⟨g, 67, none⟩ = some p.cv := ((o1.cell (b := g) (o := 67) (by simp; omega) hg5).trans (World.cell?_alloc_past _ _ _ hgl)).trans k67; have z67 : w4.frozen? ⟨g, 67, none⟩ = false := (o1.frz (b := g) (k := 67) (by simp; omega) hg5).trans ((frozen?_alloc_cells _ _ _ _).trans (zz 67)); clear r1 o1))
  have hC2 : ∀ b, (w3.alloc (.cells #[.int .i64 f] 3)).heap.size ≤ b → C b := fun b hb => hC b (by have := O3.out.size; simp at hb; omega)
  have hl1 : (q.cl ++ [(f : Int)]).length = q.cl.length + 1 := by simp
  have M5 := (M3.out.box (.cells #[.int .i64 f] 3)).sCl hC2 O1.out (.slice (some ⟨g1, 0, none⟩) (q.cl.length + 1) cap1) (q.cl ++ [(f : Int)]) (by rw [hl1]; exact R1.out)
  have O5 := (((O3.out.alloc (.cells #[.int .i64 f] 3)).trans O1.out fun b _ hb => M3.out.foot b (by omega)).cells (p := ⟨g, 67, none⟩) M3.out.cg (.slice (some ⟨g1, 0, none⟩) (q.cl.length + 1) cap1))
  clear e67 z67 O1 R1 hC2
  generalize World.setCell w4 _ _ = w5 at *
  clear k67 zz hgl RR hg5 M3 O3 MM OO
  have k67 := M5.k67
  have k74 : w5.cell? ⟨g, 74, none⟩ = some (.int .i64 q.depth) := M5.k74
  have zz := M5.frozen
  have MM := Lib.hid (M5.put 74 (.int .i64 (max q.depth ((q.cl.length : Int) + 1))) _ (fun x hx => hx.sDepth _) rfl rfl rfl rfl rfl)
  have OO := Lib.hid (O5.cells (p := ⟨g, 74, none⟩) M5.cg (.int .i64 (max q.depth ((q.cl.length : Int) + 1))))
  clear M5 O5
  go_region
  all_goals go_wp2_with fail
  all_goals go_end0
  · have e : Value.int .i64 ((q.cl.length : Int) + 1) = Value.int .i64 (max q.depth ((q.cl.length : Int) + 1)) := by congr 1; omega
    rw [e]
    exact ⟨rfl, ⟨_, _, MM.out.drew⟩, OO.out.drew⟩
  · have e : Value.int .i64 q.depth = Value.int .i64 (max q.depth ((q.cl.length : Int) + 1)) := by congr 1; omega
    rw [e]
    exact ⟨rfl, ⟨_, _, MM.out.drew⟩, OO.out.drew⟩
set_option maxRecDepth 100000 in
set_option maxHeartbeats 8000000 in
theorem mcall_no (w : World) (C : Nat → Prop) (g : Nat) (K : MK) (q : MQ) (c : Nat) (h : MAt w C g K q c) (op : Int) (a b d : Nat) (n : Int) (hf : 0 ≤ q.fr) (hz : 0 ≤ q.sz) (hm : q.fr + q.sz ≤ 1099511627776) (hs0 : 0 ≤ K.sl) (hs1 : K.sl ≤ 1099511627776) (hn : 0 ≤ n) (hn2 : n < K.nf) (ht : K.sl - (q.fr + q.sz) < (K.Fs n.toNat).frame) : Calls Try.prog 63 #[.pointer (some ⟨g, 0, none⟩), insR op a b d n] w (Stops w C g K q c 2 7 0) := by
  obtain ⟨z0, p, h⟩ := h
  obtain ⟨w1, s, z, hw, hs, ls, M, O, i0, i1, i2, i3, i4⟩ := h.boxed2 op a b d n
  have hl := M.lt
  have zz := M.frozen
  obtain ⟨f, rfl⟩ := Int.eq_ofNat_of_zero_le hn
  have k65 := M.k65
  have k66 := M.k66
  have k4 := M.k4
  have k1 := M.k1
  obtain ⟨fl, hsz, fb, off, hA, hb7, hbl, c0, c1, c2, c3, c4⟩ := M.fl.2 f (by omega)
  rw [hA] at k1
  have MN := Lib.hid (fun k => (show MAt (w1.drewN k) C g K q c from MAt.more ⟨z, p, M.drewN k⟩ fun b _ hb => hb.1))
  have ON := Lib.hid (fun k => O.drewN k)
  have hfi : (0 : Int) ≤ (f : Int) := Int.natCast_nonneg _
  have ht2 : K.sl - (q.fr + q.sz) < (K.Fs f).frame := ht
  clear h M O hb7 hn ht
  generalize q.fr = fr at *
  generalize q.sz = sz at *
  unfold insR
  go_enter Try.func63, Try.ntmps63
  go_wp2_with fail
  rw [← hw, ← hs]
  clear hw hs
  go_quiet (fail)
  go_wp2_with fail
  go_quiet (fail)
  go_wp2_with (go_at_call 100; refine (stop_c _ _ _ _).mono ?_; rintro e w3 ⟨rfl, hw3⟩; subst hw3)
  exact ⟨rfl, rfl, MN.out _, ON.out _⟩
set_option maxRecDepth 100000 in
set_option maxHeartbeats 8000000 in
theorem mcall_ok (w : World) (C : Nat → Prop) (g : Nat) (K : MK) (q : MQ) (c : Nat) (h : MAt w C g K q c) (op : Int) (a b d : Nat) (n : Int) (hC : ∀ b, w.heap.size ≤ b → C b) (hc : c + 1 < 9000000000000) (hlen : q.cl.length < 4398046511104) (hat : i64in q.at_) (hf : 0 ≤ q.fr) (hz : 0 ≤ q.sz) (hm : q.fr + q.sz ≤ 1099511627776) (hs0 : 0 ≤ K.sl) (hs1 : K.sl ≤ 1099511627776) (hn : 0 ≤ n) (hn2 : n < K.nf) (ht : ¬ K.sl - (q.fr + q.sz) < (K.Fs n.toNat).frame) : Calls Try.prog 63 #[.pointer (some ⟨g, 0, none⟩), insR op a b d n] w (Did w C g K (q.begin K n.toNat (q.fr + q.sz) q.at_ q.fr) (c + 2)) := by
  obtain ⟨z0, p, h⟩ := h
  obtain ⟨w1, s, z, hw, hs, ls, M, O, i0, i1, i2, i3, i4⟩ := h.boxed2 op a b d n
  have hl := M.lt
  have zz := M.frozen
  obtain ⟨f, rfl⟩ := Int.eq_ofNat_of_zero_le hn
  have k65 := M.k65
  have k66 := M.k66
  have k64 := M.k64
  have k4 := M.k4
  have k1 := M.k1
  obtain ⟨fl, hsz, fb, off, hA, hb7, hbl, c0, c1, c2, c3, c4⟩ := M.fl.2 f (by omega)
  rw [hA] at k1
  have hC1 : ∀ b, w1.heap.size ≤ b → C b ∧ b ≠ s := fun b hb => ⟨hC b (Nat.le_trans O.size hb), by omega⟩
  have TC := Lib.hid (fun k => (mbegin_c (w1.drewN k) (fun b => C b ∧ b ≠ s) g K q c ⟨z, p, M.drewN k⟩ hC1 hc f (by omega) (q.fr + q.sz) q.at_ q.fr (by omega) (by omega) hat ⟨by omega, by omega⟩ hlen).mono (fun e w' (hd : Did (w1.drewN k) (fun b => C b ∧ b ≠ s) g K (q.begin K f (q.fr + q.sz) q.at_ q.fr) (c + 2) e w') => show e = .returned (.tuple #[]) ∧ Hid (MAt w' C g K (q.begin K f (q.fr + q.sz) q.at_ q.fr) (c + 2) ∧ Only C w w') ∧ w'.cell? ⟨s, 4, none⟩ = some (.int .i64 f) from
    ⟨hd.1, ⟨hd.2.1.more fun b _ hb => hb.1, (O.drewN k).trans hd.2.2 fun b _ hb => hb.1⟩, (hd.2.2.cell (b := s) (o := 4) ls (fun hb => hb.2 rfl)).trans i4⟩))
  have DD : Hid (Did w C g K (q.begin K f (q.fr + q.sz) q.at_ q.fr) (c + 2) = fun e w' => e = .returned (.tuple #[]) ∧ MAt w' C g K (q.begin K f (q.fr + q.sz) q.at_ q.fr) (c + 2) ∧ Only C w w') := rfl
  rw [show (f : Int).toNat = f from rfl, DD.out]
  have hfi : (0 : Int) ≤ (f : Int) := Int.natCast_nonneg _
  have ht2 : ¬ K.sl - (q.fr + q.sz) < (K.Fs f).frame := ht
  have hwr : IntKind.i64.wrap (q.fr + q.sz) = q.fr + q.sz := by rw [IntKind.wrap_i64]; omega
  clear DD h M O hC hC1 hb7 hn ht
  generalize q.begin K f (q.fr + q.sz) q.at_ q.fr = q2 at *
  generalize q.fr = fr at *
  generalize q.sz = sz at *
  generalize q.at_ = at_ at *
  unfold insR
  go_enter Try.func63, Try.ntmps63
  go_wp2_with fail
  rw [← hw, ← hs]
  clear hw hs
  go_quiet (fail)
  go_wp2_with fail
  go_quiet (fail)
  go_wp2_with fail

  refine wp_region_held_drew (S := (fun w' => w'.cell? ⟨s, 4, none⟩ = some (.int .i64 f))) (by kernel_rfl) (i4) (fun hHeld => ?_)
  refine wpAnyH_take (i := 0) (v := ?_) (by simp only [List.getElem?_toArray, List.getElem?_cons_succ, List.getElem?_cons_zero]; rfl) (by kernel_rfl) (by kernel_rfl) (by kernel_rfl) (by exact fun _ _ _ h => h) (Or.inl ⟨by rfl, ?_⟩) (by assumption) ?_
  rotate_left
  · (intro w hSw; (try dsimp only at hSw); go_simp; with_reducible rfl)
  try simp only [Act.put, List.setIfInBounds_toArray, List.set_cons_zero, List.set_cons_succ]
  refine wpAnyH_take (i := 1) (v := ?_) (by simp only [List.getElem?_toArray, List.getElem?_cons_succ, List.getElem?_cons_zero]; rfl) (by kernel_rfl) (by kernel_rfl) (by kernel_rfl) (by exact fun _ _ _ h => h) (Or.inl ⟨by rfl, ?_⟩) (by assumption) ?_
  rotate_left
  · (intro w hSw; (try dsimp only at hSw); go_simp; with_reducible rfl)
  try simp only [Act.put, List.setIfInBounds_toArray, List.set_cons_zero, List.set_cons_succ]
  refine wpAnyH_take (i := 2) (v := ?_) (by simp only [List.getElem?_toArray, List.getElem?_cons_succ, List.getElem?_cons_zero]; rfl) (by kernel_rfl) (by kernel_rfl) (by kernel_rfl) (by exact fun _ _ _ h => h) (Or.inl ⟨by rfl, ?_⟩) (by assumption) ?_
  rotate_left
  · (intro w hSw; (try dsimp only at hSw); go_simp; with_reducible rfl)
  try simp only [Act.put, List.setIfInBounds_toArray, List.set_cons_zero, List.set_cons_succ]
  refine wpAnyH_take (i := 3) (v := ?_) (by simp only [List.getElem?_toArray, List.getElem?_cons_succ, List.getElem?_cons_zero]; rfl) (by kernel_rfl) (by kernel_rfl) (by kernel_rfl) (by exact fun _ _ _ h => h) (Or.inl ⟨by rfl, ?_⟩) (by assumption) ?_
  rotate_left
  · (intro w hSw; (try dsimp only at hSw); go_simp; with_reducible rfl)
  try simp only [Act.put, List.setIfInBounds_toArray, List.set_cons_zero, List.set_cons_succ]
  refine wpAnyH_take (i := 4) (v := ?_) (by simp only [List.getElem?_toArray, List.getElem?_cons_succ, List.getElem?_cons_zero]; rfl) (by kernel_rfl) (by kernel_rfl) (by kernel_rfl) (by exact fun _ _ _ h => h) (Or.inl ⟨by rfl, ?_⟩) (by assumption) ?_
  rotate_left
  · (intro w hSw; (try dsimp only at hSw); go_simp; with_reducible rfl)
  try simp only [Act.put, List.setIfInBounds_toArray, List.set_cons_zero, List.set_cons_succ]
  refine wpAnyH_take (i := 5) (v := ?_) (by simp only [List.getElem?_toArray, List.getElem?_cons_succ, List.getElem?_cons_zero]; rfl) (by kernel_rfl) (by kernel_rfl) (by kernel_rfl) (by exact fun _ _ _ h => h) (Or.inl ⟨by rfl, ?_⟩) (by assumption) ?_
  rotate_left
  · (intro w hSw; (try dsimp only at hSw); go_simp; with_reducible rfl)
  try simp only [Act.put, List.setIfInBounds_toArray, List.set_cons_zero, List.set_cons_succ]
  refine wpAnyH_take (i := 6) (v := ?_) (by simp only [List.getElem?_toArray, List.getElem?_cons_succ, List.getElem?_cons_zero]; rfl) (by kernel_rfl) (by kernel_rfl) (by kernel_rfl) (by exact fun _ _ _ h => h) (Or.inl ⟨by rfl, ?_⟩) (by assumption) ?_
  rotate_left
  · (intro w hSw; (try dsimp only at hSw); go_simp; with_reducible rfl)
  try simp only [Act.put, List.setIfInBounds_toArray, List.set_cons_zero, List.set_cons_succ]
  refine wpAnyH_take (i := 8) (v := ?_) (by simp only [List.getElem?_toArray, List.getElem?_cons_succ, List.getElem?_cons_zero]; rfl) (by kernel_rfl) (by kernel_rfl) (by kernel_rfl) (by exact fun _ _ _ h => h) (Or.inl ⟨by rfl, ?_⟩) (by assumption) ?_
  rotate_left
  · (intro w hSw; (try dsimp only at hSw); go_simp; with_reducible rfl)
  try simp only [Act.put, List.setIfInBounds_toArray, List.set_cons_zero, List.set_cons_succ]
  refine wpAnyH_take (i := 9) (v := ?_) (by simp only [List.getElem?_toArray, List.getElem?_cons_succ, List.getElem?_cons_zero]; rfl) (by kernel_rfl) (by kernel_rfl) (by kernel_rfl) (by exact fun _ _ _ h => h) (Or.inl ⟨by rfl, ?_⟩) (by assumption) ?_
  rotate_left
  · (intro w hSw; (try dsimp only at hSw); go_simp; with_reducible rfl)
  try simp only [Act.put, List.setIfInBounds_toArray, List.set_cons_zero, List.set_cons_succ]
  refine wpAnyH_take (i := 10) (v := ?_) (by simp only [List.getElem?_toArray, List.getElem?_cons_succ, List.getElem?_cons_zero]; rfl) (by kernel_rfl) (by kernel_rfl) (by kernel_rfl) (by exact fun _ _ _ h => h) (Or.inl ⟨by rfl, ?_⟩) (by assumption) ?_
  rotate_left
  · (intro w hSw; (try dsimp only at hSw); go_simp; with_reducible rfl)
  try simp only [Act.put, List.setIfInBounds_toArray, List.set_cons_zero, List.set_cons_succ]
  refine wpAnyH_ready (rs := [7, 11]) (by kernel_rfl) (by simp) ?_
  refine AllReadyH.cons (by simp only [List.getElem?_toArray, List.getElem?_cons_succ, List.getElem?_cons_zero]; rfl) (fun K hK => ?_) ?_
  · go_simp
    refine hK.out _ _ (i4) (fun hHeld => ?_)
    clear hK K
    try simp only [Act.put, List.setIfInBounds_toArray, List.set_cons_zero, List.set_cons_succ]
    refine wpAnyH_ready (rs := [11]) (by kernel_rfl) (by simp) ?_
    refine AllReadyH.cons (by simp only [List.getElem?_toArray, List.getElem?_cons_succ, List.getElem?_cons_zero]; rfl) (fun K hK => ?_) ?_
    · go_simp
      refine hK.out _ _ (i4) (fun hHeld => ?_)
      clear hK K
      try simp only [Act.put, List.setIfInBounds_toArray, List.set_cons_zero, List.set_cons_succ]
      refine wpAnyH_ready (rs := [12]) (by kernel_rfl) (by simp) ?_
      refine AllReadyH.cons (by simp only [List.getElem?_toArray, List.getElem?_cons_succ, List.getElem?_cons_zero]; rfl) (fun K hK => ?_) ?_
      · go_simp
        go_at_call 36
        refine (TC.out _).mono ?_
        rintro e w2 ⟨rfl, HF, i42⟩
        refine hK.out _ _ (i42) (fun hHeld => ?_)
        clear hK K
        try simp only [Act.put, List.setIfInBounds_toArray, List.set_cons_zero, List.set_cons_succ]
        refine wpAnyH_done (by kernel_rfl) ?_ _
        go_wp2_with fail
        go_end0
        exact ⟨rfl, HF.out⟩
      exact AllReadyH.nil
    exact AllReadyH.nil
  refine AllReadyH.cons (by simp only [List.getElem?_toArray, List.getElem?_cons_succ, List.getElem?_cons_zero]; rfl) (fun K hK => ?_) ?_
  · go_simp
    refine hK.out _ _ (i4) (fun hHeld => ?_)
    clear hK K
    try simp only [Act.put, List.setIfInBounds_toArray, List.set_cons_zero, List.set_cons_succ]
    refine wpAnyH_ready (rs := [7]) (by kernel_rfl) (by simp) ?_
    refine AllReadyH.cons (by simp only [List.getElem?_toArray, List.getElem?_cons_succ, List.getElem?_cons_zero]; rfl) (fun K hK => ?_) ?_
    · go_simp
      refine hK.out _ _ (i4) (fun hHeld => ?_)
      clear hK K
      try simp only [Act.put, List.setIfInBounds_toArray, List.set_cons_zero, List.set_cons_succ]
      refine wpAnyH_ready (rs := [12]) (by kernel_rfl) (by simp) ?_
      refine AllReadyH.cons (by simp only [List.getElem?_toArray, List.getElem?_cons_succ, List.getElem?_cons_zero]; rfl) (fun K hK => ?_) ?_
      · go_simp
        go_at_call 36
        refine (TC.out _).mono ?_
        rintro e w2 ⟨rfl, HF, i42⟩
        refine hK.out _ _ (i42) (fun hHeld => ?_)
        clear hK K
        try simp only [Act.put, List.setIfInBounds_toArray, List.set_cons_zero, List.set_cons_succ]
        refine wpAnyH_done (by kernel_rfl) ?_ _
        go_wp2_with fail
        go_end0
        exact ⟨rfl, HF.out⟩
      exact AllReadyH.nil
    exact AllReadyH.nil
  exact AllReadyH.nil
theorem Row.popped {w : World} {z : Nat → Nat} {v : Value} {ys : List Int} {y : Int} (h : Row w (fun b => z b = 5) 3 1 v (ys ++ [y]).length (nums (ys ++ [y]))) : ∃ b cap, v = .slice (some ⟨b, 0, none⟩) (ys.length + 1) cap ∧ z b = 5 ∧ b < w.heap.size ∧ ys.length + 1 ≤ cap ∧ (cap : Int) ≤ 9223372036854775807 ∧
    Row w (fun b => nz z w.heap.size 5 b = 5) 3 1 (.slice (some ⟨b, 0, none⟩) ys.length cap) ys.length (nums ys) := by
  obtain ⟨b, cap, rfl, hb, hlt, hle⟩ := h.form (by simp)
  have hl : (ys ++ [y]).length = ys.length + 1 := by simp
  rw [hl] at h hle ⊢
  have hcap : (cap : Int) ≤ 9223372036854775807 := by
    rcases h.1.2 with ⟨h0, _⟩ | ⟨_, _, _, h0, _, _, _, h1, _⟩
    · cases h0
    · injection h0 with _ _ h0
      unfold maxLen at h1
      omega
  refine ⟨b, cap, rfl, hb, hlt, hle, hcap, ?_, fun b2 hb2 => ?_⟩
  · exact ownsRow_pop (by simp [nums]) (last := nums [y]) (by rw [nums_append]; exact h.1)
  · have : b = b2 := by simpa [Value.ownBlock] using hb2
    subst this
    show nz z w.heap.size 5 b = 5
    rw [nz_lt z hlt]; exact hb
set_option maxRecDepth 100000 in
set_option maxHeartbeats 8000000 in
theorem mret_last (w : World) (C : Nat → Prop) (g : Nat) (K : MK) (q : MQ) (c : Nat) (h : MAt w C g K q c) (op : Int) (a b d : Nat) (n : Int) (hC : ∀ b, w.heap.size ≤ b → C b) (y : Int) (hcl : q.cl = [y]) : Calls Try.prog 64 #[.pointer (some ⟨g, 0, none⟩), insR op a b d n] w (Stops w C g K { q with cl := [] } c 1 0 0) := by
  obtain ⟨ys, hys⟩ : ∃ ys : List Int, ys = [] := ⟨_, rfl⟩
  have hcl : q.cl = ys ++ [y] := by rw [hys]; exact hcl
  obtain ⟨z, p, h⟩ := h
  obtain ⟨w1, s, hw, hs, M, O, i0, i1, i2, i3, i4⟩ := h.boxed op a b d n
  have hl := M.lt
  have zz := M.frozen
  have k67 := M.k67
  have ca := M.ca
  rw [hcl] at ca
  obtain ⟨b5, cap, hv, hb5, hbl, hle, hcap, RP⟩ := ca.popped
  rw [hv] at k67
  have hC1 : ∀ b, w1.heap.size ≤ b → C b := fun b hb => hC b (Nat.le_trans O.size hb)
  have M5 := Lib.hid (M.sCl hC1 (Only.refl _ w1) _ ys RP)
  have O5 := Lib.hid (O.cells (p := ⟨g, 67, none⟩) M.cg (.slice (some ⟨b5, 0, none⟩) ys.length cap))
  subst hys
  simp only [List.length_nil] at k67 M5 O5 hle
  clear h M O hC hC1 RP ca hcl
  unfold insR
  go_enter Try.func64, Try.ntmps64
  subst hs
  subst hw
  go_wp2_with (go_at_call 100; refine (stop_c _ _ _ _).mono ?_; rintro e w3 ⟨rfl, hw3⟩; subst hw3)
  exact ⟨rfl, rfl, ⟨_, _, M5.out⟩, O5.out⟩
set_option maxRecDepth 100000 in
set_option maxHeartbeats 8000000 in
theorem mret_more (w : World) (C : Nat → Prop) (g : Nat) (K : MK) (q : MQ) (c : Nat) (h : MAt w C g K q c) (op : Int) (a b d : Nat) (n : Int) (hC : ∀ b, w.heap.size ≤ b → C b) (ys : List Int) (y x : Int) (hcl : q.cl = (ys ++ [x]) ++ [y]) (hx0 : 0 ≤ x) (hx1 : x < K.nf) (hf : 0 ≤ q.fr) (hm : q.fr + 1 ≤ 9223372036854775807) : Calls Try.prog 64 #[.pointer (some ⟨g, 0, none⟩), insR op a b d n] w (Did w C g K (q.ret K) c) := by
  obtain ⟨yy, hyy⟩ : ∃ yy : List Int, yy = ys ++ [x] := ⟨_, rfl⟩
  rw [← hyy] at hcl
  obtain ⟨xn, rfl⟩ := Int.eq_ofNat_of_zero_le hx0
  have hx2 : xn < K.nf := by omega
  obtain ⟨z, p, h⟩ := h
  obtain ⟨w1, s, hw, hs, M, O, i0, i1, i2, i3, i4⟩ := h.boxed op a b d n
  have hl := M.lt
  have zz := M.frozen
  have k67 := M.k67
  have ca := M.ca
  rw [hcl] at ca
  obtain ⟨b5, cap, hv, hb5, hbl, hle, hcap, RP⟩ := ca.popped
  rw [hv] at k67
  have hC1 : ∀ b, w1.heap.size ≤ b → C b := fun b hb => hC b (Nat.le_trans O.size hb)
  have M5 := Lib.hid (M.sCl hC1 (Only.refl _ w1) _ yy RP)
  have O5 := Lib.hid (O.cells (p := ⟨g, 67, none⟩) M.cg (.slice (some ⟨b5, 0, none⟩) yy.length cap))
  have hyl : yy.length = ys.length + 1 := by rw [hyy]; simp
  have e : ((ys.length : Int) + 1 == 0) = false := beq_eq_false_iff_ne.2 (by omega)
  have hret : q.ret K = { q with cl := yy, at_ := q.st q.fr, fr := q.st (q.fr + 1), sz := (K.Fs xn).frame } := by
    unfold MQ.ret
    rw [hcl, List.dropLast_concat, hyy]
    simp
  have DD : Hid (Did w C g K (q.ret K) c = fun e w' => e = .returned (.tuple #[]) ∧ MAt w' C g K (q.ret K) c ∧ Only C w w') := rfl
  rw [DD.out]
  rw [hyl] at k67 M5 O5 hle
  have hret := Lib.hid hret
  have hyy := Lib.hid hyy
  clear DD h M O hC hC1 RP ca hcl hx0 hx1
  unfold insR
  go_enter Try.func64, Try.ntmps64
  subst hs
  subst hw
  go_wp2_with fail
  generalize World.setCell _ ⟨g, 67, none⟩ _ = w5 at *
  clear k67
  have k67 := M5.out.k67
  have k65 : w5.cell? ⟨g, 65, none⟩ = some (.int .i64 q.fr) := M5.out.k65
  have k64 : w5.cell? ⟨g, 64, none⟩ = some (.int .i64 q.at_) := M5.out.k64
  clear zz
  have zz := M5.out.frozen
  obtain ⟨frn, hfrn⟩ := Int.eq_ofNat_of_zero_le hf
  have T1 : Hid (Calls Try.prog 102 #[.pointer (some ⟨g, 61, none⟩), .int .i64 q.fr] w5.drew fun e w' => e = .returned (.int .i64 (q.st q.fr)) ∧ w' = w5.drew) := by
    have := wget_c w5.drew C _ g _ K _ c M5.out.drew frn (by omega)
    rw [← hfrn] at this
    exact this
  have T2 : Hid (Calls Try.prog 102 #[.pointer (some ⟨g, 61, none⟩), .int .i64 (q.fr + 1)] w5.drew fun e w' => e = .returned (.int .i64 (q.st (q.fr + 1))) ∧ w' = w5.drew) := by
    have := wget_c w5.drew C _ g _ K _ c M5.out.drew (frn + 1) (by omega)
    rw [show ((frn + 1 : Nat) : Int) = q.fr + 1 by omega] at this
    exact this
  have hwr : IntKind.i64.wrap (q.fr + 1) = q.fr + 1 := by rw [IntKind.wrap_i64]; omega
  have M6 := Lib.hid (((M5.out.put 64 (.int .i64 (q.st q.fr)) _ (fun f hf => hf.sAt _) rfl rfl rfl rfl rfl).put 65 (.int .i64 (q.st (q.fr + 1))) _ (fun f hf => hf.sFr _) rfl rfl rfl rfl rfl).drew)
  have O6 := Lib.hid (((O5.out.cells (p := ⟨g, 64, none⟩) M5.out.cg (.int .i64 (q.st q.fr))).cells (p := ⟨g, 65, none⟩) M5.out.cg (.int .i64 (q.st (q.fr + 1)))).drew)
  clear M5 O5 hv hfrn
  refine wp_region_held_drew (S := (fun _ => True)) (by kernel_rfl) (trivial) (fun hHeld => ?_)
  refine wpAnyH_take (i := 0) (v := ?_) (by simp only [List.getElem?_toArray, List.getElem?_cons_succ, List.getElem?_cons_zero]; rfl) (by kernel_rfl) (by kernel_rfl) (by kernel_rfl) (by exact fun _ _ _ h => h) (Or.inl ⟨by rfl, ?_⟩) (by assumption) ?_
  rotate_left
  · (intro w hSw; (try dsimp only at hSw); go_simp; with_reducible rfl)
  try simp only [Act.put, List.setIfInBounds_toArray, List.set_cons_zero, List.set_cons_succ]
  refine wpAnyH_take (i := 1) (v := ?_) (by simp only [List.getElem?_toArray, List.getElem?_cons_succ, List.getElem?_cons_zero]; rfl) (by kernel_rfl) (by kernel_rfl) (by kernel_rfl) (by exact fun _ _ _ h => h) (Or.inl ⟨by rfl, ?_⟩) (by assumption) ?_
  rotate_left
  · (intro w hSw; (try dsimp only at hSw); go_simp; with_reducible rfl)
  try simp only [Act.put, List.setIfInBounds_toArray, List.set_cons_zero, List.set_cons_succ]
  refine wpAnyH_take (i := 2) (v := ?_) (by simp only [List.getElem?_toArray, List.getElem?_cons_succ, List.getElem?_cons_zero]; rfl) (by kernel_rfl) (by kernel_rfl) (by kernel_rfl) (by exact fun _ _ _ h => h) (Or.inl ⟨by rfl, ?_⟩) (by assumption) ?_
  rotate_left
  · (intro w hSw; (try dsimp only at hSw); go_simp; with_reducible rfl)
  try simp only [Act.put, List.setIfInBounds_toArray, List.set_cons_zero, List.set_cons_succ]
  refine wpAnyH_take (i := 3) (v := ?_) (by simp only [List.getElem?_toArray, List.getElem?_cons_succ, List.getElem?_cons_zero]; rfl) (by kernel_rfl) (by kernel_rfl) (by kernel_rfl) (by exact fun _ _ _ h => h) (Or.inl ⟨by rfl, ?_⟩) (by assumption) ?_
  rotate_left
  · (intro w hSw; (try dsimp only at hSw); go_simp; with_reducible rfl)
  try simp only [Act.put, List.setIfInBounds_toArray, List.set_cons_zero, List.set_cons_succ]
  refine wpAnyH_take (i := 4) (v := ?_) (by simp only [List.getElem?_toArray, List.getElem?_cons_succ, List.getElem?_cons_zero]; rfl) (by kernel_rfl) (by kernel_rfl) (by kernel_rfl) (by exact fun _ _ _ h => h) (Or.inl ⟨by rfl, ?_⟩) (by assumption) ?_
  rotate_left
  · (intro w hSw; (try dsimp only at hSw); go_simp; with_reducible rfl)
  try simp only [Act.put, List.setIfInBounds_toArray, List.set_cons_zero, List.set_cons_succ]
  refine wpAnyH_take (i := 5) (v := ?_) (by simp only [List.getElem?_toArray, List.getElem?_cons_succ, List.getElem?_cons_zero]; rfl) (by kernel_rfl) (by kernel_rfl) (by kernel_rfl) (by exact fun _ _ _ h => h) (Or.inl ⟨by rfl, ?_⟩) (by assumption) ?_
  rotate_left
  · (intro w hSw; (try dsimp only at hSw); go_simp; with_reducible rfl)
  try simp only [Act.put, List.setIfInBounds_toArray, List.set_cons_zero, List.set_cons_succ]
  refine wpAnyH_take (i := 6) (v := ?_) (by simp only [List.getElem?_toArray, List.getElem?_cons_succ, List.getElem?_cons_zero]; rfl) (by kernel_rfl) (by kernel_rfl) (by kernel_rfl) (by exact fun _ _ _ h => h) (Or.inl ⟨by rfl, ?_⟩) (by assumption) ?_
  rotate_left
  · (intro w hSw; (try dsimp only at hSw); go_simp; with_reducible rfl)
  try simp only [Act.put, List.setIfInBounds_toArray, List.set_cons_zero, List.set_cons_succ]
  refine wpAnyH_take (i := 7) (v := ?_) (by simp only [List.getElem?_toArray, List.getElem?_cons_succ, List.getElem?_cons_zero]; rfl) (by kernel_rfl) (by kernel_rfl) (by kernel_rfl) (by exact fun _ _ _ h => h) (Or.inl ⟨by rfl, ?_⟩) (by assumption) ?_
  rotate_left
  · (intro w hSw; (try dsimp only at hSw); go_simp; with_reducible rfl)
  try simp only [Act.put, List.setIfInBounds_toArray, List.set_cons_zero, List.set_cons_succ]
  refine wpAnyH_take (i := 10) (v := ?_) (by simp only [List.getElem?_toArray, List.getElem?_cons_succ, List.getElem?_cons_zero]; rfl) (by kernel_rfl) (by kernel_rfl) (by kernel_rfl) (by exact fun _ _ _ h => h) (Or.inl ⟨by rfl, ?_⟩) (by assumption) ?_
  rotate_left
  · (intro w hSw; (try dsimp only at hSw); go_simp; with_reducible rfl)
  try simp only [Act.put, List.setIfInBounds_toArray, List.set_cons_zero, List.set_cons_succ]
  refine wpAnyH_take (i := 11) (v := ?_) (by simp only [List.getElem?_toArray, List.getElem?_cons_succ, List.getElem?_cons_zero]; rfl) (by kernel_rfl) (by kernel_rfl) (by kernel_rfl) (by exact fun _ _ _ h => h) (Or.inl ⟨by rfl, ?_⟩) (by assumption) ?_
  rotate_left
  · (intro w hSw; (try dsimp only at hSw); go_simp; with_reducible rfl)
  try simp only [Act.put, List.setIfInBounds_toArray, List.set_cons_zero, List.set_cons_succ]
  refine wpAnyH_take (i := 12) (v := ?_) (by simp only [List.getElem?_toArray, List.getElem?_cons_succ, List.getElem?_cons_zero]; rfl) (by kernel_rfl) (by kernel_rfl) (by kernel_rfl) (by exact fun _ _ _ h => h) (Or.inl ⟨by rfl, ?_⟩) (by assumption) ?_
  rotate_left
  · (intro w hSw; (try dsimp only at hSw); go_simp; with_reducible rfl)
  try simp only [Act.put, List.setIfInBounds_toArray, List.set_cons_zero, List.set_cons_succ]
  refine wpAnyH_take (i := 13) (v := ?_) (by simp only [List.getElem?_toArray, List.getElem?_cons_succ, List.getElem?_cons_zero]; rfl) (by kernel_rfl) (by kernel_rfl) (by kernel_rfl) (by exact fun _ _ _ h => h) (Or.inl ⟨by rfl, ?_⟩) (by assumption) ?_
  rotate_left
  · (intro w hSw; (try dsimp only at hSw); go_simp; with_reducible rfl)
  try simp only [Act.put, List.setIfInBounds_toArray, List.set_cons_zero, List.set_cons_succ]
  refine wpAnyH_take (i := 14) (v := ?_) (by simp only [List.getElem?_toArray, List.getElem?_cons_succ, List.getElem?_cons_zero]; rfl) (by kernel_rfl) (by kernel_rfl) (by kernel_rfl) (by exact fun _ _ _ h => h) (Or.inl ⟨by rfl, ?_⟩) (by assumption) ?_
  rotate_left
  · (intro w hSw; (try dsimp only at hSw); go_simp; with_reducible rfl)
  try simp only [Act.put, List.setIfInBounds_toArray, List.set_cons_zero, List.set_cons_succ]
  refine wpAnyH_take (i := 15) (v := ?_) (by simp only [List.getElem?_toArray, List.getElem?_cons_succ, List.getElem?_cons_zero]; rfl) (by kernel_rfl) (by kernel_rfl) (by kernel_rfl) (by exact fun _ _ _ h => h) (Or.inl ⟨by rfl, ?_⟩) (by assumption) ?_
  rotate_left
  · (intro w hSw; (try dsimp only at hSw); go_simp; with_reducible rfl)
  try simp only [Act.put, List.setIfInBounds_toArray, List.set_cons_zero, List.set_cons_succ]
  refine wpAnyH_ready (rs := [8, 16]) (by kernel_rfl) (by simp) ?_
  refine AllReadyH.cons (by simp only [List.getElem?_toArray, List.getElem?_cons_succ, List.getElem?_cons_zero]; rfl) (fun K hK => ?_) ?_
  · go_simp
    refine hK.out _ _ (trivial) (fun hHeld => ?_)
    clear hK K
    try simp only [Act.put, List.setIfInBounds_toArray, List.set_cons_zero, List.set_cons_succ]
    refine wpAnyH_ready (rs := [9, 16]) (by kernel_rfl) (by simp) ?_
    refine AllReadyH.cons (by simp only [List.getElem?_toArray, List.getElem?_cons_succ, List.getElem?_cons_zero]; rfl) (fun K hK => ?_) ?_
    · go_simp
      go_at_call 102
      refine T1.out.mono ?_
      rintro e w2 ⟨rfl, rfl⟩
      go_wp2_with fail
      refine hK.out _ _ (trivial) (fun hHeld => ?_)
      clear hK K
      try simp only [Act.put, List.setIfInBounds_toArray, List.set_cons_zero, List.set_cons_succ]
      refine wpAnyH_ready (rs := [16]) (by kernel_rfl) (by simp) ?_
      refine AllReadyH.cons (by simp only [List.getElem?_toArray, List.getElem?_cons_succ, List.getElem?_cons_zero]; rfl) (fun K hK => ?_) ?_
      · go_simp
        refine hK.out _ _ (trivial) (fun hHeld => ?_)
        clear hK K
        try simp only [Act.put, List.setIfInBounds_toArray, List.set_cons_zero, List.set_cons_succ]
        refine wpAnyH_take (i := 17) (v := ?_) (by simp only [List.getElem?_toArray, List.getElem?_cons_succ, List.getElem?_cons_zero]; rfl) (by kernel_rfl) (by kernel_rfl) (by kernel_rfl) (by exact fun _ _ _ h => h) (Or.inl ⟨by rfl, ?_⟩) (by assumption) ?_
        rotate_left
        · (intro w hSw; (try dsimp only at hSw); go_simp; (try rw [hwr]); with_reducible rfl)
        try simp only [Act.put, List.setIfInBounds_toArray, List.set_cons_zero, List.set_cons_succ]
        refine wpAnyH_ready (rs := [18]) (by kernel_rfl) (by simp) ?_
        refine AllReadyH.cons (by simp only [List.getElem?_toArray, List.getElem?_cons_succ, List.getElem?_cons_zero]; rfl) (fun K hK => ?_) ?_
        · go_simp
          go_at_call 102
          refine T2.out.mono ?_
          rintro e w2 ⟨rfl, rfl⟩
          go_wp2_with fail
          refine hK.out _ _ (trivial) (fun hHeld => ?_)
          clear hK K
          try simp only [Act.put, List.setIfInBounds_toArray, List.set_cons_zero, List.set_cons_succ]
          refine wpAnyH_take (i := 19) (v := ?_) (by simp only [List.getElem?_toArray, List.getElem?_cons_succ, List.getElem?_cons_zero]; rfl) (by kernel_rfl) (by kernel_rfl) (by kernel_rfl) (by exact fun _ _ _ h => h) (Or.inl ⟨by rfl, ?_⟩) (by assumption) ?_
          rotate_left
          · (intro w hSw; (try dsimp only at hSw); go_simp; (try rw [hwr]); with_reducible rfl)
          try simp only [Act.put, List.setIfInBounds_toArray, List.set_cons_zero, List.set_cons_succ]
          refine wpAnyH_take (i := 20) (v := ?_) (by simp only [List.getElem?_toArray, List.getElem?_cons_succ, List.getElem?_cons_zero]; rfl) (by kernel_rfl) (by kernel_rfl) (by kernel_rfl) (by exact fun _ _ _ h => h) (Or.inl ⟨by rfl, ?_⟩) (by assumption) ?_
          rotate_left
          · (intro w hSw; (try dsimp only at hSw); go_simp; (try rw [hwr]); with_reducible rfl)
          try simp only [Act.put, List.setIfInBounds_toArray, List.set_cons_zero, List.set_cons_succ]
          refine wpAnyH_ready (rs := [21]) (by kernel_rfl) (by simp) ?_
          refine AllReadyH.cons (by simp only [List.getElem?_toArray, List.getElem?_cons_succ, List.getElem?_cons_zero]; rfl) (fun K hK => ?_) ?_
          · go_simp
            refine hK.out _ _ (trivial) (fun hHeld => ?_)
            clear hK K
            try simp only [Act.put, List.setIfInBounds_toArray, List.set_cons_zero, List.set_cons_succ]
            refine wpAnyH_take (i := 22) (v := ?_) (by simp only [List.getElem?_toArray, List.getElem?_cons_succ, List.getElem?_cons_zero]; rfl) (by kernel_rfl) (by kernel_rfl) (by kernel_rfl) (by exact fun _ _ _ h => h) (Or.inl ⟨by rfl, ?_⟩) (by assumption) ?_
            rotate_left
            · (intro w hSw; (try dsimp only at hSw); go_simp; (try rw [hwr]); with_reducible rfl)
            try simp only [Act.put, List.setIfInBounds_toArray, List.set_cons_zero, List.set_cons_succ]
            refine wpAnyH_take (i := 23) (v := ?_) (by simp only [List.getElem?_toArray, List.getElem?_cons_succ, List.getElem?_cons_zero]; rfl) (by kernel_rfl) (by kernel_rfl) (by kernel_rfl) (by exact fun _ _ _ h => h) (Or.inl ⟨by rfl, ?_⟩) (by assumption) ?_
            rotate_left
            · (intro w hSw; (try dsimp only at hSw); go_simp; (try rw [hwr]); with_reducible rfl)
            try simp only [Act.put, List.setIfInBounds_toArray, List.set_cons_zero, List.set_cons_succ]
            refine wpAnyH_ready (rs := [24]) (by kernel_rfl) (by simp) ?_
            refine AllReadyH.cons (by simp only [List.getElem?_toArray, List.getElem?_cons_succ, List.getElem?_cons_zero]; rfl) (fun K hK => ?_) ?_
            · go_simp
              refine hK.out _ _ (trivial) (fun hHeld => ?_)
              clear hK K
              try simp only [Act.put, List.setIfInBounds_toArray, List.set_cons_zero, List.set_cons_succ]
              refine wpAnyH_done (by kernel_rfl) ?_ _
              clear k64 k65 k67 T1 T2 zz e
              generalize World.drew _ = w6 at *
              have k67 := M6.out.k67
              have k66 := M6.out.k66
              have k1 := M6.out.k1
              have zz := M6.out.frozen
              have cx : w6.cell? ⟨b5, ys.length, none⟩ = some (.int .i64 xn) := by
                have h1 : Row w6 _ 3 1 (.slice (some ⟨b5, 0, none⟩) (ys.length + 1) cap) yy.length (nums yy) := M6.out.ca
                rw [hyl, hyy.out] at h1
                exact h1.cell (by rw [nums_get _ _ (by simp)]; simp)
              obtain ⟨fl, hsz, fb, off, hA, hb7, hfb, c0, c1, c2, c3, c4⟩ := M6.out.fl.2 xn hx2
              rw [show p.fa = some ⟨fb, off, none⟩ from hA] at k1
              have MH := Lib.hid ((M6.out.put 66 (.int .i64 (K.Fs xn).frame) _ (fun f hf => hf.sSz _) rfl rfl rfl rfl rfl).drew)
              have OH := Lib.hid ((O6.out.cells (p := ⟨g, 66, none⟩) M6.out.cg (.int .i64 (K.Fs xn).frame)).drew)
              have hxi : (0 : Int) ≤ (xn : Int) := Int.natCast_nonneg _
              have hxn : (xn : Int) < (K.nf : Int) := by omega
              have k66 : w6.cell? ⟨g, 66, none⟩ = some (.int .i64 q.sz) := k66
              have k1 : w6.cell? ⟨g, 1, none⟩ = some (.slice (some ⟨fb, off, none⟩) K.nf p.fc) := k1
              have k67 : w6.cell? ⟨g, 67, none⟩ = some (.slice (some ⟨b5, 0, none⟩) (ys.length + 1) cap) := k67
              clear M6 O6 hb7
              go_wp2_with fail
              go_region
              all_goals go_wp2_with fail
              all_goals go_end0
              all_goals exact ⟨rfl, ⟨_, _, hret.out ▸ MH.out⟩, OH.out⟩
            exact AllReadyH.nil
          exact AllReadyH.nil
        exact AllReadyH.nil
      exact AllReadyH.nil
    refine AllReadyH.cons (by simp only [List.getElem?_toArray, List.getElem?_cons_succ, List.getElem?_cons_zero]; rfl) (fun K hK => ?_) ?_
    · go_simp
      refine hK.out _ _ (trivial) (fun hHeld => ?_)
      clear hK K
      try simp only [Act.put, List.setIfInBounds_toArray, List.set_cons_zero, List.set_cons_succ]
      refine wpAnyH_take (i := 17) (v := ?_) (by simp only [List.getElem?_toArray, List.getElem?_cons_succ, List.getElem?_cons_zero]; rfl) (by kernel_rfl) (by kernel_rfl) (by kernel_rfl) (by exact fun _ _ _ h => h) (Or.inl ⟨by rfl, ?_⟩) (by assumption) ?_
      rotate_left
      · (intro w hSw; (try dsimp only at hSw); go_simp; (try rw [hwr]); with_reducible rfl)
      try simp only [Act.put, List.setIfInBounds_toArray, List.set_cons_zero, List.set_cons_succ]
      refine wpAnyH_ready (rs := [9]) (by kernel_rfl) (by simp) ?_
      refine AllReadyH.cons (by simp only [List.getElem?_toArray, List.getElem?_cons_succ, List.getElem?_cons_zero]; rfl) (fun K hK => ?_) ?_
      · go_simp
        go_at_call 102
        refine T1.out.mono ?_
        rintro e w2 ⟨rfl, rfl⟩
        go_wp2_with fail
        refine hK.out _ _ (trivial) (fun hHeld => ?_)
        clear hK K
        try simp only [Act.put, List.setIfInBounds_toArray, List.set_cons_zero, List.set_cons_succ]
        refine wpAnyH_ready (rs := [18]) (by kernel_rfl) (by simp) ?_
        refine AllReadyH.cons (by simp only [List.getElem?_toArray, List.getElem?_cons_succ, List.getElem?_cons_zero]; rfl) (fun K hK => ?_) ?_
        · go_simp
          go_at_call 102
          refine T2.out.mono ?_
          rintro e w2 ⟨rfl, rfl⟩
          go_wp2_with fail
          refine hK.out _ _ (trivial) (fun hHeld => ?_)
          clear hK K
          try simp only [Act.put, List.setIfInBounds_toArray, List.set_cons_zero, List.set_cons_succ]
          refine wpAnyH_take (i := 19) (v := ?_) (by simp only [List.getElem?_toArray, List.getElem?_cons_succ, List.getElem?_cons_zero]; rfl) (by kernel_rfl) (by kernel_rfl) (by kernel_rfl) (by exact fun _ _ _ h => h) (Or.inl ⟨by rfl, ?_⟩) (by assumption) ?_
          rotate_left
          · (intro w hSw; (try dsimp only at hSw); go_simp; (try rw [hwr]); with_reducible rfl)
          try simp only [Act.put, List.setIfInBounds_toArray, List.set_cons_zero, List.set_cons_succ]
          refine wpAnyH_take (i := 20) (v := ?_) (by simp only [List.getElem?_toArray, List.getElem?_cons_succ, List.getElem?_cons_zero]; rfl) (by kernel_rfl) (by kernel_rfl) (by kernel_rfl) (by exact fun _ _ _ h => h) (Or.inl ⟨by rfl, ?_⟩) (by assumption) ?_
          rotate_left
          · (intro w hSw; (try dsimp only at hSw); go_simp; (try rw [hwr]); with_reducible rfl)
          try simp only [Act.put, List.setIfInBounds_toArray, List.set_cons_zero, List.set_cons_succ]
          refine wpAnyH_ready (rs := [21]) (by kernel_rfl) (by simp) ?_
          refine AllReadyH.cons (by simp only [List.getElem?_toArray, List.getElem?_cons_succ, List.getElem?_cons_zero]; rfl) (fun K hK => ?_) ?_
          · go_simp
            refine hK.out _ _ (trivial) (fun hHeld => ?_)
            clear hK K
            try simp only [Act.put, List.setIfInBounds_toArray, List.set_cons_zero, List.set_cons_succ]
            refine wpAnyH_take (i := 22) (v := ?_) (by simp only [List.getElem?_toArray, List.getElem?_cons_succ, List.getElem?_cons_zero]; rfl) (by kernel_rfl) (by kernel_rfl) (by kernel_rfl) (by exact fun _ _ _ h => h) (Or.inl ⟨by rfl, ?_⟩) (by assumption) ?_
            rotate_left
            · (intro w hSw; (try dsimp only at hSw); go_simp; (try rw [hwr]); with_reducible rfl)
            try simp only [Act.put, List.setIfInBounds_toArray, List.set_cons_zero, List.set_cons_succ]
            refine wpAnyH_take (i := 23) (v := ?_) (by simp only [List.getElem?_toArray, List.getElem?_cons_succ, List.getElem?_cons_zero]; rfl) (by kernel_rfl) (by kernel_rfl) (by kernel_rfl) (by exact fun _ _ _ h => h) (Or.inl ⟨by rfl, ?_⟩) (by assumption) ?_
            rotate_left
            · (intro w hSw; (try dsimp only at hSw); go_simp; (try rw [hwr]); with_reducible rfl)
            try simp only [Act.put, List.setIfInBounds_toArray, List.set_cons_zero, List.set_cons_succ]
            refine wpAnyH_ready (rs := [24]) (by kernel_rfl) (by simp) ?_
            refine AllReadyH.cons (by simp only [List.getElem?_toArray, List.getElem?_cons_succ, List.getElem?_cons_zero]; rfl) (fun K hK => ?_) ?_
            · go_simp
              refine hK.out _ _ (trivial) (fun hHeld => ?_)
              clear hK K
              try simp only [Act.put, List.setIfInBounds_toArray, List.set_cons_zero, List.set_cons_succ]
              refine wpAnyH_done (by kernel_rfl) ?_ _
              clear k64 k65 k67 T1 T2 zz e
              generalize World.drew _ = w6 at *
              have k67 := M6.out.k67
              have k66 := M6.out.k66
              have k1 := M6.out.k1
              have zz := M6.out.frozen
              have cx : w6.cell? ⟨b5, ys.length, none⟩ = some (.int .i64 xn) := by
                have h1 : Row w6 _ 3 1 (.slice (some ⟨b5, 0, none⟩) (ys.length + 1) cap) yy.length (nums yy) := M6.out.ca
                rw [hyl, hyy.out] at h1
                exact h1.cell (by rw [nums_get _ _ (by simp)]; simp)
              obtain ⟨fl, hsz, fb, off, hA, hb7, hfb, c0, c1, c2, c3, c4⟩ := M6.out.fl.2 xn hx2
              rw [show p.fa = some ⟨fb, off, none⟩ from hA] at k1
              have MH := Lib.hid ((M6.out.put 66 (.int .i64 (K.Fs xn).frame) _ (fun f hf => hf.sSz _) rfl rfl rfl rfl rfl).drew)
              have OH := Lib.hid ((O6.out.cells (p := ⟨g, 66, none⟩) M6.out.cg (.int .i64 (K.Fs xn).frame)).drew)
              have hxi : (0 : Int) ≤ (xn : Int) := Int.natCast_nonneg _
              have hxn : (xn : Int) < (K.nf : Int) := by omega
              have k66 : w6.cell? ⟨g, 66, none⟩ = some (.int .i64 q.sz) := k66
              have k1 : w6.cell? ⟨g, 1, none⟩ = some (.slice (some ⟨fb, off, none⟩) K.nf p.fc) := k1
              have k67 : w6.cell? ⟨g, 67, none⟩ = some (.slice (some ⟨b5, 0, none⟩) (ys.length + 1) cap) := k67
              clear M6 O6 hb7
              go_wp2_with fail
              go_region
              all_goals go_wp2_with fail
              all_goals go_end0
              all_goals exact ⟨rfl, ⟨_, _, hret.out ▸ MH.out⟩, OH.out⟩
            exact AllReadyH.nil
          exact AllReadyH.nil
        exact AllReadyH.nil
      exact AllReadyH.nil
    exact AllReadyH.nil
  refine AllReadyH.cons (by simp only [List.getElem?_toArray, List.getElem?_cons_succ, List.getElem?_cons_zero]; rfl) (fun K hK => ?_) ?_
  · go_simp
    refine hK.out _ _ (trivial) (fun hHeld => ?_)
    clear hK K
    try simp only [Act.put, List.setIfInBounds_toArray, List.set_cons_zero, List.set_cons_succ]
    refine wpAnyH_take (i := 17) (v := ?_) (by simp only [List.getElem?_toArray, List.getElem?_cons_succ, List.getElem?_cons_zero]; rfl) (by kernel_rfl) (by kernel_rfl) (by kernel_rfl) (by exact fun _ _ _ h => h) (Or.inl ⟨by rfl, ?_⟩) (by assumption) ?_
    rotate_left
    · (intro w hSw; (try dsimp only at hSw); go_simp; (try rw [hwr]); with_reducible rfl)
    try simp only [Act.put, List.setIfInBounds_toArray, List.set_cons_zero, List.set_cons_succ]
    refine wpAnyH_ready (rs := [8]) (by kernel_rfl) (by simp) ?_
    refine AllReadyH.cons (by simp only [List.getElem?_toArray, List.getElem?_cons_succ, List.getElem?_cons_zero]; rfl) (fun K hK => ?_) ?_
    · go_simp
      refine hK.out _ _ (trivial) (fun hHeld => ?_)
      clear hK K
      try simp only [Act.put, List.setIfInBounds_toArray, List.set_cons_zero, List.set_cons_succ]
      refine wpAnyH_ready (rs := [9]) (by kernel_rfl) (by simp) ?_
      refine AllReadyH.cons (by simp only [List.getElem?_toArray, List.getElem?_cons_succ, List.getElem?_cons_zero]; rfl) (fun K hK => ?_) ?_
      · go_simp
        go_at_call 102
        refine T1.out.mono ?_
        rintro e w2 ⟨rfl, rfl⟩
        go_wp2_with fail
        refine hK.out _ _ (trivial) (fun hHeld => ?_)
        clear hK K
        try simp only [Act.put, List.setIfInBounds_toArray, List.set_cons_zero, List.set_cons_succ]
        refine wpAnyH_ready (rs := [18]) (by kernel_rfl) (by simp) ?_
        refine AllReadyH.cons (by simp only [List.getElem?_toArray, List.getElem?_cons_succ, List.getElem?_cons_zero]; rfl) (fun K hK => ?_) ?_
        · go_simp
          go_at_call 102
          refine T2.out.mono ?_
          rintro e w2 ⟨rfl, rfl⟩
          go_wp2_with fail
          refine hK.out _ _ (trivial) (fun hHeld => ?_)
          clear hK K
          try simp only [Act.put, List.setIfInBounds_toArray, List.set_cons_zero, List.set_cons_succ]
          refine wpAnyH_take (i := 19) (v := ?_) (by simp only [List.getElem?_toArray, List.getElem?_cons_succ, List.getElem?_cons_zero]; rfl) (by kernel_rfl) (by kernel_rfl) (by kernel_rfl) (by exact fun _ _ _ h => h) (Or.inl ⟨by rfl, ?_⟩) (by assumption) ?_
          rotate_left
          · (intro w hSw; (try dsimp only at hSw); go_simp; (try rw [hwr]); with_reducible rfl)
          try simp only [Act.put, List.setIfInBounds_toArray, List.set_cons_zero, List.set_cons_succ]
          refine wpAnyH_take (i := 20) (v := ?_) (by simp only [List.getElem?_toArray, List.getElem?_cons_succ, List.getElem?_cons_zero]; rfl) (by kernel_rfl) (by kernel_rfl) (by kernel_rfl) (by exact fun _ _ _ h => h) (Or.inl ⟨by rfl, ?_⟩) (by assumption) ?_
          rotate_left
          · (intro w hSw; (try dsimp only at hSw); go_simp; (try rw [hwr]); with_reducible rfl)
          try simp only [Act.put, List.setIfInBounds_toArray, List.set_cons_zero, List.set_cons_succ]
          refine wpAnyH_ready (rs := [21]) (by kernel_rfl) (by simp) ?_
          refine AllReadyH.cons (by simp only [List.getElem?_toArray, List.getElem?_cons_succ, List.getElem?_cons_zero]; rfl) (fun K hK => ?_) ?_
          · go_simp
            refine hK.out _ _ (trivial) (fun hHeld => ?_)
            clear hK K
            try simp only [Act.put, List.setIfInBounds_toArray, List.set_cons_zero, List.set_cons_succ]
            refine wpAnyH_take (i := 22) (v := ?_) (by simp only [List.getElem?_toArray, List.getElem?_cons_succ, List.getElem?_cons_zero]; rfl) (by kernel_rfl) (by kernel_rfl) (by kernel_rfl) (by exact fun _ _ _ h => h) (Or.inl ⟨by rfl, ?_⟩) (by assumption) ?_
            rotate_left
            · (intro w hSw; (try dsimp only at hSw); go_simp; (try rw [hwr]); with_reducible rfl)
            try simp only [Act.put, List.setIfInBounds_toArray, List.set_cons_zero, List.set_cons_succ]
            refine wpAnyH_take (i := 23) (v := ?_) (by simp only [List.getElem?_toArray, List.getElem?_cons_succ, List.getElem?_cons_zero]; rfl) (by kernel_rfl) (by kernel_rfl) (by kernel_rfl) (by exact fun _ _ _ h => h) (Or.inl ⟨by rfl, ?_⟩) (by assumption) ?_
            rotate_left
            · (intro w hSw; (try dsimp only at hSw); go_simp; (try rw [hwr]); with_reducible rfl)
            try simp only [Act.put, List.setIfInBounds_toArray, List.set_cons_zero, List.set_cons_succ]
            refine wpAnyH_ready (rs := [24]) (by kernel_rfl) (by simp) ?_
            refine AllReadyH.cons (by simp only [List.getElem?_toArray, List.getElem?_cons_succ, List.getElem?_cons_zero]; rfl) (fun K hK => ?_) ?_
            · go_simp
              refine hK.out _ _ (trivial) (fun hHeld => ?_)
              clear hK K
              try simp only [Act.put, List.setIfInBounds_toArray, List.set_cons_zero, List.set_cons_succ]
              refine wpAnyH_done (by kernel_rfl) ?_ _
              clear k64 k65 k67 T1 T2 zz e
              generalize World.drew _ = w6 at *
              have k67 := M6.out.k67
              have k66 := M6.out.k66
              have k1 := M6.out.k1
              have zz := M6.out.frozen
              have cx : w6.cell? ⟨b5, ys.length, none⟩ = some (.int .i64 xn) := by
                have h1 : Row w6 _ 3 1 (.slice (some ⟨b5, 0, none⟩) (ys.length + 1) cap) yy.length (nums yy) := M6.out.ca
                rw [hyl, hyy.out] at h1
                exact h1.cell (by rw [nums_get _ _ (by simp)]; simp)
              obtain ⟨fl, hsz, fb, off, hA, hb7, hfb, c0, c1, c2, c3, c4⟩ := M6.out.fl.2 xn hx2
              rw [show p.fa = some ⟨fb, off, none⟩ from hA] at k1
              have MH := Lib.hid ((M6.out.put 66 (.int .i64 (K.Fs xn).frame) _ (fun f hf => hf.sSz _) rfl rfl rfl rfl rfl).drew)
              have OH := Lib.hid ((O6.out.cells (p := ⟨g, 66, none⟩) M6.out.cg (.int .i64 (K.Fs xn).frame)).drew)
              have hxi : (0 : Int) ≤ (xn : Int) := Int.natCast_nonneg _
              have hxn : (xn : Int) < (K.nf : Int) := by omega
              have k66 : w6.cell? ⟨g, 66, none⟩ = some (.int .i64 q.sz) := k66
              have k1 : w6.cell? ⟨g, 1, none⟩ = some (.slice (some ⟨fb, off, none⟩) K.nf p.fc) := k1
              have k67 : w6.cell? ⟨g, 67, none⟩ = some (.slice (some ⟨b5, 0, none⟩) (ys.length + 1) cap) := k67
              clear M6 O6 hb7
              go_wp2_with fail
              go_region
              all_goals go_wp2_with fail
              all_goals go_end0
              all_goals exact ⟨rfl, ⟨_, _, hret.out ▸ MH.out⟩, OH.out⟩
            exact AllReadyH.nil
          exact AllReadyH.nil
        exact AllReadyH.nil
      exact AllReadyH.nil
    exact AllReadyH.nil
  exact AllReadyH.nil
end Go.Proofs.Ytkjfbojmkkdgoaa
