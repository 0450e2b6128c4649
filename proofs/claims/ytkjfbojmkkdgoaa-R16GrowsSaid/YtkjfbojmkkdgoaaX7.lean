/- r16's machine: what is read and told. -/
import Derived.Test.YtkjfbojmkkdgoaaX6
import Derived.Deep.RegionLaw
import Derived.Deep.AppendLies
set_option linter.unusedVariables false
set_option linter.unusedSimpArgs false
namespace Go.Proofs.Ytkjfbojmkkdgoaa
open Go.RowKit
attribute [local go_sem ↓] Go.wp_at_zero Go.wp_at_succ
theorem Row.pushed {z : Nat → Nat} {j : Nat} {w w' : World} {e : TypeId} {size n : Nat} {v : Value} {xs : List Value} (h : Row w (fun b => z b = j) e size v n xs) {gg cap m : Nat} {ys : List Value}
    (hown : w'.ownsRow 0 e size (.slice (some ⟨gg, 0, none⟩) m cap) m ys) (hg : w.grownBy w' v.ownBlock) (hat : v.ownBlock = some gg ∨ gg = w.heap.size) :
    Row w' (fun b => nz z w.heap.size j b = j) e size (.slice (some ⟨gg, 0, none⟩) m cap) m ys ∧ Only (fun b => z b = j) w w' := by
  refine ⟨⟨hown, fun b hb => ?_⟩, (Only.refl _ w).grown hg fun k hk => .inl (h.2 k hk)⟩
  have : gg = b := by simpa [Value.ownBlock] using hb
  subst this
  show nz z w.heap.size j gg = j
  rcases hat with e | e
  · rw [nz_lt z (h.lt e)]; exact h.2 gg e
  · rw [nz_ge z (by omega)]
theorem Only.frz {F : Nat → Prop} {a w : World} (h : Only F a w) {b k : Nat} (hb : b < a.heap.size) (hf : ¬ F b) : w.frozen? ⟨b, k, none⟩ = a.frozen? ⟨b, k, none⟩ := World.frozen?_of_block (h.block b hb hf)
theorem info_of {P : Program} {t : TypeId} {z : Value} {s b : Nat} (h : (P.info? t).map (fun i => (i.zero, i.size, i.bytes)) = some (some z, s, b)) : ∃ i, P.info? t = some i ∧ i.zero = some z ∧ i.size = s ∧ i.bytes = b := by
  cases hi : P.info? t with
  | none => rw [hi] at h; cases h
  | some i =>
    rw [hi] at h
    simp only [Option.map_some, Option.some.injEq, Prod.mk.injEq] at h
    exact ⟨i, rfl, h.1, h.2.1, h.2.2⟩
theorem ev_info : (Try.prog.info? 50).map (fun i => (i.zero, i.size, i.bytes)) = some (some (.agg #[.int .i64 0, .int .i64 0]), 2, 16) := by kernel_rfl
theorem int_info : (Try.prog.info? 3).map (fun i => (i.zero, i.size, i.bytes)) = some (some (.int .i64 0), 1, 8) := by kernel_rfl
theorem step_ev {ops : Array Oper} {o : Oper} {a : Act} {K : Act → World → Prop} {Q : Exit → Act → World → Prop} {E : Prop} {w : World} {z : Nat → Nat} {j : Nat} (hgd : o.guard = none) (s x : Operand)
    (ho : o.op = .call { callee := .builtin .append, args := #[s, x], argTypes := #[42, 42] }) (v : Value) (xs : List (Int × Int)) (hs : a.eval s = v) (hr : Row w (fun b => z b = j) 50 2 v xs.length (evs xs)) (hlen : xs.length < 4294967296)
    (b c : Nat) (kd vl : Int) (hx : a.eval x = .slice (some ⟨b, 0, none⟩) 1 c) (hb : Blk w b 50 #[.int .i64 kd, .int .i64 vl])
    (h : ∀ (g cap : Nat) w', Row w' (fun b => nz z w.heap.size j b = j) 50 2 (.slice (some ⟨g, 0, none⟩) (xs.length + 1) cap) (xs.length + 1) (evs (xs ++ [(kd, vl)])) → Only (fun b => z b = j) w w' → K (a.put o.dst (.slice (some ⟨g, 0, none⟩) (xs.length + 1) cap)) w') :
    if Region.wanted o (yielded ops a.tmps) = true then Oper.wp Try.prog o a w K Q else E := by
  obtain ⟨i, h1, h2, h3, h4⟩ := info_of ev_info
  refine step_append_lies w hgd s x 42 ho 0 50 i _ 2 16 Try.underlying42 h1 h2 h3 h4 rfl (by omega) v xs.length (evs xs) hs hr.1 ⟨b, 0, none⟩ 1 c [.int .i64 kd, .int .i64 vl] hx (by rfl) (World.news_of_block (cs := #[.int .i64 kd, .int .i64 vl]) (t := 50) (fr := (0, 0)) hb) (by simp [Value.oneCell']) (by omega) (by unfold maxLen; omega) (by omega) (Nat.zero_le _) w.heap.size rfl ?_
  intro g cap w' hown hgrow hat hlt
  obtain ⟨r, o⟩ := hr.pushed hown hgrow hat
  refine h g cap w' ?_ o
  rw [evs_append]
  exact r
theorem wpList_num {ops : Array Oper} {rest : List Oper} {o : Oper} {a : Act} {Q : Exit → Act → World → Prop} {w : World} {z : Nat → Nat} {j : Nat} (hgd : o.guard = none) (s x : Operand)
    (ho : o.op = .call { callee := .builtin .append, args := #[s, x], argTypes := #[36, 36] }) (v : Value) (xs : List Int) (hs : a.eval s = v) (hr : Row w (fun b => z b = j) 3 1 v xs.length (nums xs)) (hlen : xs.length < 4398046511104)
    (b c : Nat) (vl : Int) (hx : a.eval x = .slice (some ⟨b, 0, none⟩) 1 c) (hb : Blk w b 3 #[.int .i64 vl])
    (h : ∀ (g cap : Nat) w', Row w' (fun b => nz z w.heap.size j b = j) 3 1 (.slice (some ⟨g, 0, none⟩) (xs.length + 1) cap) (xs.length + 1) (nums (xs ++ [vl])) → Only (fun b => z b = j) w w' → wpList Try.prog ops Q rest (a.put o.dst (.slice (some ⟨g, 0, none⟩) (xs.length + 1) cap)) w') :
    wpList Try.prog ops Q (o :: rest) a w := by
  obtain ⟨i, h1, h2, h3, h4⟩ := info_of int_info
  refine wpList_append_lies w hgd s x 36 ho 0 3 i _ 1 8 Try.underlying36 h1 h2 h3 h4 rfl (by omega) v xs.length (nums xs) hs hr.1 ⟨b, 0, none⟩ 1 c [.int .i64 vl] hx (by rfl) (World.news_of_block (cs := #[.int .i64 vl]) (t := 3) (fr := (0, 0)) hb) (by simp [Value.oneCell']) (by omega) (by unfold maxLen; omega) (by omega) (Nat.zero_le _) w.heap.size rfl ?_
  intro g cap w' hown hgrow hat hlt
  obtain ⟨r, o⟩ := hr.pushed hown hgrow hat
  refine h g cap w' ?_ o
  rw [← nums_append]
  exact r
set_option maxRecDepth 100000 in
set_option maxHeartbeats 8000000 in
theorem minp_no (w : World) (C : Nat → Prop) (g : Nat) (K : MK) (q : MQ) (c : Nat) (h : MAt w C g K q c) (op : Int) (a b d : Nat) (n : Int) (ht : q.inp = []) : Calls Try.prog 73 #[.pointer (some ⟨g, 0, none⟩), insR op a b d n] w (Stops w C g K q c 2 5 0) := by
  obtain ⟨z, p, h⟩ := h
  obtain ⟨w1, s, hw, hs, M, O, i0, i1, i2, i3, i4⟩ := h.boxed op a b d n
  have hl := M.lt
  have zz := M.frozen
  have k3 := M.k3
  rw [ht] at k3
  have MN := Lib.hid M
  have ON := Lib.hid O
  clear h M O
  unfold insR
  go_enter Try.func73, Try.ntmps73
  subst hs
  subst hw
  go_wp2_with (go_at_call 100; refine (stop_c _ _ _ _).mono ?_; rintro e w3 ⟨rfl, hw3⟩; subst hw3)
  exact ⟨rfl, rfl, ⟨z, p, MN.out⟩, ON.out⟩
set_option maxRecDepth 100000 in
set_option maxHeartbeats 8000000 in
theorem minp_ok (w : World) (C : Nat → Prop) (g : Nat) (K : MK) (q : MQ) (c : Nat) (h : MAt w C g K q c) (op : Int) (a b d : Nat) (n : Int) (ha : a < 16) (x : Int) (r : List Int) (ht : q.inp = x :: r) : Calls Try.prog 73 #[.pointer (some ⟨g, 0, none⟩), insR op a b d n] w (Did w C g K ({ q with inp := r }.reg a x) c) := by
  obtain ⟨z, p, h⟩ := h
  obtain ⟨w1, s, hw, hs, M, O, i0, i1, i2, i3, i4⟩ := h.boxed op a b d n
  have hl := M.lt
  have zz := M.frozen
  have ka := M.kr a ha
  have la : (a : Int) < 16 := by omega
  have k3 := M.k3
  have n0 := M.nl.2 0 (by rw [ht]; simp)
  have nl1 := M.nl.1
  rw [ht] at n0 k3 nl1
  obtain ⟨b, off, hA, hb7, hbl, n0⟩ := n0
  rw [hA] at k3
  simp only [Nat.add_zero] at n0
  have n0' : w1.cell? ⟨b, off, none⟩ = some (.int .i64 x) := n0
  have hbg : b ≠ g := fun e => by rw [e, M.zg] at hb7; cases hb7
  have nl' : NL w1 (fun b => z b = 7) (some ⟨b, off + 1, none⟩) r := ⟨by simp at nl1; omega, fun i hi => by
    obtain ⟨b', off', h1, h2, h3, h4⟩ := M.nl.2 (i + 1) (by rw [ht]; simp; omega)
    rw [hA] at h1
    injection h1 with h1
    injection h1 with h1 h1'
    subst h1 h1'
    rw [ht] at h4
    refine ⟨b, off + 1, rfl, h2, h3, ?_⟩
    rw [show off + 1 + i = off + (i + 1) by omega]
    exact h4⟩
  have hnc := M.nc
  rw [ht] at hnc
  simp only [List.length_cons] at k3 nl1 hnc
  have hlen : (0 : Int) < ((r.length + 1 : Nat) : Int) := by omega
  have hlen0 : (((r.length + 1 : Nat) : Int) == 0) = false := beq_eq_false_iff_ne.2 (by omega)
  have M1 := M.sreg a ha x
  have MH := Lib.hid M1
  have OH := Lib.hid (O.cells (p := ⟨g, 45 + a, none⟩) M.cg (.int .i64 x))
  have o1 : Only (fun b => b = g) w1 (w1.setCell ⟨g, 45 + a, none⟩ (.int .i64 x)) := (Only.refl (fun b => b = g) w1).cells (p := ⟨g, 45 + a, none⟩) rfl _
  have nl'' : NL (w1.setCell ⟨g, 45 + a, none⟩ (.int .i64 x)) (fun b => z b = 7) (some ⟨b, off + 1, none⟩) r := nl'.tr o1 (fun b' hb' h7 => ⟨(fun e => absurd h7 (by rw [e, M.zg]; decide)), h7⟩)
  have NH := Lib.hid nl''
  clear h M O M1 nl' nl''
  unfold insR
  go_enter Try.func73, Try.ntmps73
  subst hs
  subst hw
  go_wp2_with fail
  generalize w.alloc _ = w1 at *
  generalize w.heap.size = s at *
  have hcond : (1 : Int) ≤ (r.length : Int) + 1 := by omega
  go_region
  all_goals go_wp2_with fail
  all_goals go_end0
  · have hr0 : r = [] := List.eq_nil_of_length_eq_zero (by omega)
    refine ⟨rfl, ⟨z, _, (MH.out.sInp (some ⟨b, off, none⟩) 0 r ⟨by omega, fun i hi => absurd hi (by rw [hr0]; simp)⟩ (by rw [hr0]; simp)).drew⟩, (OH.out.cells (p := ⟨g, 3, none⟩) MH.out.cg _).drew⟩
  · exact ⟨rfl, ⟨z, _, (MH.out.sInp (some ⟨b, off + 1, none⟩) (p.nc - 1) r NH.out (by omega)).drew⟩, (OH.out.cells (p := ⟨g, 3, none⟩) MH.out.cg _).drew⟩
set_option maxRecDepth 100000 in
set_option maxHeartbeats 8000000 in
theorem moutInt_c (w : World) (C : Nat → Prop) (g : Nat) (K : MK) (q : MQ) (c : Nat) (h : MAt w C g K q c) (op : Int) (a b d : Nat) (n : Int) (ha : a < 16) (hC : ∀ b, w.heap.size ≤ b → C b) (hlen : q.ev.length < 4294967296) : Calls Try.prog 74 #[.pointer (some ⟨g, 0, none⟩), insR op a b d n] w (Did w C g K { q with ev := q.ev ++ [(1, q.regs a)] } c) := by
  obtain ⟨z, p, h⟩ := h
  obtain ⟨w1, s, hw, hs, M, O, i0, i1, i2, i3, i4⟩ := h.boxed op a b d n
  have hl := M.lt
  have zz := M.frozen
  have ka := M.kr a ha
  have la : (a : Int) < 16 := by omega
  have hgl := M.lt
  have hg6 : ¬ z g = 6 := by rw [M.zg]; decide
  have MN := Lib.hid M
  have ON := Lib.hid O
  have ER := Lib.hid M.ea
  have k68 := M.k68
  clear h M O
  generalize q.regs (a : Int) = va at *
  unfold insR
  go_enter Try.func74, Try.ntmps74
  go_wp2_with fail
  rw [← hw, ← hs]
  clear hw hs
  go_region_law (refine step_ev (by rfl) (.tmp 9) (.tmp 18) (by rfl) (z := z) (j := 6) p.ev q.ev (by rfl) ((ER.out.drewN 1).alloc _) hlen w1.heap.size 1 1 va (by rfl) (Blk.new _ _ _) ?_; intro gg cap w2 hr ho; have HR := Lib.hid (show Row w2 (fun b => nz z ((w1.drewN 1).alloc (.cells #[.int .i64 1, .int .i64 va] 50)).heap.size 6 b = 6) 50 2 (.slice (some ⟨gg, 0, none⟩) (q.ev.length + 1) cap) (q.ev.length + 1) (evs (q.ev ++ [(1, va)])) from hr); have HO := Lib.hid (show Only (fun b => z b = 6) ((w1.drewN 1).alloc (.cells #[.int .i64 1, .int .i64 va] 50)) w2 from ho); have e68 : w2.cell? ⟨g, 68, none⟩ = some p.ev := ((ho.cell (b := g) (o := 68) (by simp; omega) hg6).trans (World.cell?_alloc_past _ _ _ hgl)).trans k68; have f68 : w2.frozen? ⟨g, 68, none⟩ = false := (ho.frz (b := g) (k := 68) (by simp; omega) hg6).trans ((frozen?_alloc_cells _ _ _ _).trans (zz 68)); clear hr ho)
  all_goals (go_wp2_with fail; go_end0)
  all_goals
    have M2 := (MN.out.drewN 1).box (.cells #[.int .i64 1, .int .i64 va] 50)
    have hC2 : ∀ b, ((w1.drewN 1).alloc (.cells #[.int .i64 1, .int .i64 va] 50)).heap.size ≤ b → C b := fun b hb => hC b (by have := ON.out.size; simp at hb; omega)
    have O2 : Only C w w2 := ((ON.out.drewN 1).alloc (.cells #[.int .i64 1, .int .i64 va] 50)).trans HO.out (fun b _ hb => MN.out.foot b (by rw [hb]; decide))
    have R2 : Row w2 (fun b => nz z ((w1.drewN 1).alloc (.cells #[.int .i64 1, .int .i64 va] 50)).heap.size 6 b = 6) 50 2 (.slice (some ⟨gg, 0, none⟩) (q.ev.length + 1) cap) (q.ev ++ [(1, va)]).length (evs (q.ev ++ [(1, va)])) := by
      rw [List.length_append]
      exact HR.out
    exact ⟨rfl, ⟨_, _, (M2.sEv hC2 HO.out _ _ R2)⟩, O2.cells (p := ⟨g, 68, none⟩) MN.out.cg _⟩
set_option maxRecDepth 100000 in
set_option maxHeartbeats 8000000 in
theorem moutBool_ok (w : World) (C : Nat → Prop) (g : Nat) (K : MK) (q : MQ) (c : Nat) (h : MAt w C g K q c) (op : Int) (a b d : Nat) (n : Int) (ha : a < 16) (hC : ∀ b, w.heap.size ≤ b → C b) (hlen : q.ev.length < 4294967296) (ht : q.regs a = 0 ∨ q.regs a = 1) : Calls Try.prog 75 #[.pointer (some ⟨g, 0, none⟩), insR op a b d n] w (Did w C g K { q with ev := q.ev ++ [(2, q.regs a)] } c) := by
  obtain ⟨z, p, h⟩ := h
  obtain ⟨w1, s, hw, hs, M, O, i0, i1, i2, i3, i4⟩ := h.boxed op a b d n
  have hl := M.lt
  have zz := M.frozen
  have ka := M.kr a ha
  have la : (a : Int) < 16 := by omega
  have hgl := M.lt
  have hg6 : ¬ z g = 6 := by rw [M.zg]; decide
  have MN := Lib.hid M
  have ON := Lib.hid O
  have ER := Lib.hid M.ea
  have k68 := M.k68
  clear h M O
  have TC := Lib.hid (fun w' (hm : MZ w' C z g p K q c) => truth_yes w' C g K q c ⟨z, p, hm⟩ a ha ht)
  generalize q.regs (a : Int) = va at *
  unfold insR
  go_enter Try.func75, Try.ntmps75
  go_wp2_with fail
  rw [← hw, ← hs]
  clear hw hs
  go_region_law (first | (go_simp; go_at_call 101; refine (TC.out _ MN.out.drew).mono ?_; rintro e w3 ⟨rfl, hw3⟩; subst hw3) | (refine step_ev (by rfl) (.tmp 9) (.tmp 15) (by rfl) (z := z) (j := 6) p.ev q.ev (by rfl) ((ER.out.drewN 1).alloc _) hlen w1.heap.size 1 2 va (by rfl) (Blk.new _ _ _) ?_; intro gg cap w2 hr ho; have HR := Lib.hid (show Row w2 (fun b => nz z ((w1.drewN 1).alloc (.cells #[.int .i64 2, .int .i64 va] 50)).heap.size 6 b = 6) 50 2 (.slice (some ⟨gg, 0, none⟩) (q.ev.length + 1) cap) (q.ev.length + 1) (evs (q.ev ++ [(2, va)])) from hr); have HO := Lib.hid (show Only (fun b => z b = 6) ((w1.drewN 1).alloc (.cells #[.int .i64 2, .int .i64 va] 50)) w2 from ho); have e68 : w2.cell? ⟨g, 68, none⟩ = some p.ev := ((ho.cell (b := g) (o := 68) (by simp; omega) hg6).trans (World.cell?_alloc_past _ _ _ hgl)).trans k68; have f68 : w2.frozen? ⟨g, 68, none⟩ = false := (ho.frz (b := g) (k := 68) (by simp; omega) hg6).trans ((frozen?_alloc_cells _ _ _ _).trans (zz 68)); clear hr ho))
  all_goals (go_wp2_with fail; go_end0)
  all_goals
    have M2 := (MN.out.drewN 1).box (.cells #[.int .i64 2, .int .i64 va] 50)
    have hC2 : ∀ b, ((w1.drewN 1).alloc (.cells #[.int .i64 2, .int .i64 va] 50)).heap.size ≤ b → C b := fun b hb => hC b (by have := ON.out.size; simp at hb; omega)
    have O2 : Only C w w2 := ((ON.out.drewN 1).alloc (.cells #[.int .i64 2, .int .i64 va] 50)).trans HO.out (fun b _ hb => MN.out.foot b (by rw [hb]; decide))
    have R2 : Row w2 (fun b => nz z ((w1.drewN 1).alloc (.cells #[.int .i64 2, .int .i64 va] 50)).heap.size 6 b = 6) 50 2 (.slice (some ⟨gg, 0, none⟩) (q.ev.length + 1) cap) (q.ev ++ [(2, va)]).length (evs (q.ev ++ [(2, va)])) := by
      rw [List.length_append]
      exact HR.out
    exact ⟨rfl, ⟨_, _, (M2.sEv hC2 HO.out _ _ R2)⟩, O2.cells (p := ⟨g, 68, none⟩) MN.out.cg _⟩
set_option maxRecDepth 100000 in
set_option maxHeartbeats 8000000 in
theorem moutBool_no (w : World) (C : Nat → Prop) (g : Nat) (K : MK) (q : MQ) (c : Nat) (h : MAt w C g K q c) (op : Int) (a b d : Nat) (n : Int) (ha : a < 16) (hr : i64in (q.regs a)) (ht : ¬ (q.regs a = 0 ∨ q.regs a = 1)) : Calls Try.prog 75 #[.pointer (some ⟨g, 0, none⟩), insR op a b d n] w (Stops w C g K q c 3 5 0) := by
  obtain ⟨z, p, h⟩ := h
  obtain ⟨w1, s, hw, hs, M, O, i0, i1, i2, i3, i4⟩ := h.boxed op a b d n
  have hl := M.lt
  have zz := M.frozen
  have ka := M.kr a ha
  have la : (a : Int) < 16 := by omega
  have TC := Lib.hid (fun w' (hm : MZ w' C z g p K q c) => truth_no w' C g K q c ⟨z, p, hm⟩ a ha hr ht)
  have MN := Lib.hid M
  have ON := Lib.hid O
  have k68 := M.k68
  clear h M O hr ht
  generalize q.regs (a : Int) = va at *
  unfold insR
  go_enter Try.func75, Try.ntmps75
  go_wp2_with fail
  rw [← hw, ← hs]
  clear hw hs
  refine wp_region_held_drew (S := (fun w' => w'.cell? ⟨s, 1, none⟩ = some (.int .i64 a) ∧ w'.cell? ⟨g, 68, none⟩ = some p.ev)) (by kernel_rfl) (⟨i1, k68⟩) (fun hHeld => ?_)
  refine wpAnyH_take (i := 0) (v := ?_) (by simp only [List.getElem?_toArray, List.getElem?_cons_succ, List.getElem?_cons_zero]; rfl) (by kernel_rfl) (by kernel_rfl) (by kernel_rfl) (by exact fun _ _ _ h => h) (Or.inl ⟨by rfl, ?_⟩) (by assumption) ?_
  rotate_left
  · (intro w hSw; (try dsimp only at hSw); go_simp; with_reducible rfl)
  try simp only [Act.put, List.setIfInBounds_toArray, List.set_cons_zero, List.set_cons_succ]
  refine wpAnyH_take (i := 1) (v := ?_) (by simp only [List.getElem?_toArray, List.getElem?_cons_succ, List.getElem?_cons_zero]; rfl) (by kernel_rfl) (by kernel_rfl) (by kernel_rfl) (by exact fun _ _ _ h => h) (Or.inl ⟨by rfl, ?_⟩) (by assumption) ?_
  rotate_left
  · (intro w hSw; (try dsimp only at hSw); go_simp; with_reducible rfl)
  try simp only [Act.put, List.setIfInBounds_toArray, List.set_cons_zero, List.set_cons_succ]
  refine wpAnyH_take (i := 2) (v := ?_) (by simp only [List.getElem?_toArray, List.getElem?_cons_succ, List.getElem?_cons_zero]; rfl) (by kernel_rfl) (by kernel_rfl) (by kernel_rfl) (by exact fun _ _ _ h => h) (Or.inl ⟨by rfl, ?_⟩) (by assumption) ?_
  rotate_left
  · (intro w hSw; (try dsimp only at hSw); go_simp; with_reducible rfl)
  try simp only [Act.put, List.setIfInBounds_toArray, List.set_cons_zero, List.set_cons_succ]
  refine wpAnyH_take (i := 3) (v := ?_) (by simp only [List.getElem?_toArray, List.getElem?_cons_succ, List.getElem?_cons_zero]; rfl) (by kernel_rfl) (by kernel_rfl) (by kernel_rfl) (by exact fun _ _ _ h => h) (Or.inl ⟨by rfl, ?_⟩) (by assumption) ?_
  rotate_left
  · (intro w hSw; (try dsimp only at hSw); go_simp; with_reducible rfl)
  try simp only [Act.put, List.setIfInBounds_toArray, List.set_cons_zero, List.set_cons_succ]
  refine wpAnyH_take (i := 4) (v := ?_) (by simp only [List.getElem?_toArray, List.getElem?_cons_succ, List.getElem?_cons_zero]; rfl) (by kernel_rfl) (by kernel_rfl) (by kernel_rfl) (by exact fun _ _ _ h => h) (Or.inl ⟨by rfl, ?_⟩) (by assumption) ?_
  rotate_left
  · (intro w hSw; (try dsimp only at hSw); go_simp; with_reducible rfl)
  try simp only [Act.put, List.setIfInBounds_toArray, List.set_cons_zero, List.set_cons_succ]
  refine wpAnyH_take (i := 5) (v := ?_) (by simp only [List.getElem?_toArray, List.getElem?_cons_succ, List.getElem?_cons_zero]; rfl) (by kernel_rfl) (by kernel_rfl) (by kernel_rfl) (by exact fun _ _ _ h => h) (Or.inl ⟨by rfl, ?_⟩) (by assumption) ?_
  rotate_left
  · (intro w hSw; (try dsimp only at hSw); go_simp; with_reducible rfl)
  try simp only [Act.put, List.setIfInBounds_toArray, List.set_cons_zero, List.set_cons_succ]
  refine wpAnyH_take (i := 6) (v := ?_) (by simp only [List.getElem?_toArray, List.getElem?_cons_succ, List.getElem?_cons_zero]; rfl) (by kernel_rfl) (by kernel_rfl) (by kernel_rfl) (by exact fun _ _ _ h => h) (Or.inl ⟨by rfl, ?_⟩) (by assumption) ?_
  rotate_left
  · (intro w hSw; (try dsimp only at hSw); go_simp; with_reducible rfl)
  try simp only [Act.put, List.setIfInBounds_toArray, List.set_cons_zero, List.set_cons_succ]
  refine wpAnyH_take (i := 7) (v := ?_) (by simp only [List.getElem?_toArray, List.getElem?_cons_succ, List.getElem?_cons_zero]; rfl) (by kernel_rfl) (by kernel_rfl) (by kernel_rfl) (by exact fun _ _ _ h => h) (Or.inl ⟨by rfl, ?_⟩) (by assumption) ?_
  rotate_left
  · (intro w hSw; (try dsimp only at hSw); go_simp; with_reducible rfl)
  try simp only [Act.put, List.setIfInBounds_toArray, List.set_cons_zero, List.set_cons_succ]
  refine wpAnyH_take (i := 8) (v := ?_) (by simp only [List.getElem?_toArray, List.getElem?_cons_succ, List.getElem?_cons_zero]; rfl) (by kernel_rfl) (by kernel_rfl) (by kernel_rfl) (by exact fun _ _ _ h => h) (Or.inl ⟨by rfl, ?_⟩) (by assumption) ?_
  rotate_left
  · (intro w hSw; (try dsimp only at hSw); go_simp; with_reducible rfl)
  try simp only [Act.put, List.setIfInBounds_toArray, List.set_cons_zero, List.set_cons_succ]
  refine wpAnyH_ready (rs := [9]) (by kernel_rfl) (by simp) ?_
  refine AllReadyH.cons (by simp only [List.getElem?_toArray, List.getElem?_cons_succ, List.getElem?_cons_zero]; rfl) (fun K hK => ?_) AllReadyH.nil
  go_simp
  go_at_call 101
  refine (TC.out _ MN.out.drew).mono ?_
  rintro e w2 ⟨rfl, hw2⟩
  subst hw2
  exact ⟨rfl, rfl, ⟨z, p, MN.out.drew⟩, ON.out.drew⟩
end Go.Proofs.Ytkjfbojmkkdgoaa
