/- r16's Step. -/
import Derived.Test.YtkjfbojmkkdgoaaX15
import Derived.BigQuiet
import Derived.Deep.QuietTactic
set_option linter.unusedVariables false
set_option linter.unusedSimpArgs false
namespace Go.Proofs.Ytkjfbojmkkdgoaa
open Go.RowKit
attribute [local go_sem ↓] Go.wp_at_zero Go.wp_at_succ
theorem goes_no {K : MK} {q : MQ} (h : ¬ q.fin = 0) : goes K q = false := by unfold goes; rw [show (q.fin == 0) = false from beq_eq_false_iff_ne.2 h, Bool.false_and]
theorem goes_of {K : MK} {q : MQ} (h : q.fin = 0) : goes K q = !rests K q := by unfold goes; rw [show (q.fin == 0) = true from beq_iff_eq.2 h, Bool.true_and]
/-- The machine's own pointer lies in a block of its own. -/
theorem MZ.held {w : World} {C : Nat → Prop} {z : Nat → Nat} {g : Nat} {p : MP} {K : MK} {q : MQ} {c : Nat} (h : MZ w C z g p K q c) :
    ∃ w1 s z', w1 = w.alloc (.cells #[.pointer (some ⟨g, 0, none⟩)] 39) ∧ s = w.heap.size ∧ s < w1.heap.size ∧ MZ w1 (fun b => C b ∧ b ≠ s) z' g p K q c ∧ Only C w w1 ∧ w1.cell? ⟨s, 0, none⟩ = some (.pointer (some ⟨g, 0, none⟩)) := by
  have b := Blk.new w 39 #[.pointer (some ⟨g, 0, none⟩)]
  obtain ⟨z', h'⟩ := h.more (D := fun b => C b ∧ b ≠ w.heap.size) fun b hb hc => ⟨hc, by omega⟩
  exact ⟨_, _, z', rfl, rfl, by simp, h'.box _, (Only.refl C w).alloc _, b.cell 0⟩
set_option maxRecDepth 100000 in
set_option maxHeartbeats 8000000 in
theorem step_no (w : World) (C : Nat → Prop) (g : Nat) (K : MK) (q : MQ) (c : Nat) (h : MAt w C g K q c) (hf : ¬ q.fin = 0) :
    Calls Try.prog 21 #[.pointer (some ⟨g, 0, none⟩)] w fun e w' => e = .returned (.bool false) ∧ MAt w' C g K q c ∧ Only C w w' := by
  obtain ⟨z0, p, h⟩ := h
  obtain ⟨w1, s, z, hw, hs, ls, M, O, i0⟩ := h.held
  have k69 := M.k69
  have hf' : (q.fin != 0) = true := bne_iff_ne.2 hf
  have MN := Lib.hid (MAt.more (D := C) ⟨z, p, M⟩ fun b _ hb => hb.1)
  have ON := Lib.hid O
  clear h M O hf
  have hmf : ∀ (fn : Go.Fn) (first cap : Array Value) (w : World), (Instr.makeFunc fn first cap).run Try.prog w = .ok (.func fn first cap) w := fun _ _ _ _ => rfl
  go_enter_defers Try.func21, Try.ntmps21
  subst hs
  subst hw
  go_wp2_with fail
  exact ⟨_, results_tmp rfl _ _ _, rfl, MN.out, ON.out⟩

theorem then_no {K : Act → World → Prop} {Q : Exit → Act → World → Prop} : ∀ e a w, Exit.then K (fun _ _ _ => False) e a w → Exit.then K Q e a w := fun e a w h => by
  cases e <;> first | exact h | exact h.elim
theorem leaves_tmps {P : Program} {fn : Func} {t1 t2 : Array Value} {R : Ending → World → Prop} (hr : ∀ w, (results fn t1).run P w = (results fn t2).run P w) : ∀ ds u w, Leaves P fn t1 R ds u w → Leaves P fn t2 R ds u w
  | [], .returning, w, h => by unfold Leaves at *; rw [← hr]; exact h
  | [], .panicking ch, w, h => h
  | [], .run, w, h => h
  | d :: ds, u, w, h => by
    unfold Leaves at *
    obtain ⟨h1, fv, cap, f, args, h2, h3, h4⟩ := h
    refine ⟨h1, fv, cap, f, args, h2, h3, h4.mono fun e u' w' he => ?_⟩
    cases e with
    | returned v => exact leaves_tmps hr ds _ _ he
    | panicked ch => exact leaves_tmps hr ds _ _ he
    | outgrown => exact he
theorem out21 {K : Act → World → Prop} {R : Ending → World → Prop} {ch : List PanicEntry} {a : Act} {k : Nat} {v : Value} {w : World} (hk : k ≠ 2) (h : Exit.then K (bodyPostD Try.prog Try.f21 R) (.panic ch) (a.put (some k) v) w) : Exit.then K (bodyPostD Try.prog Try.f21 R) (.panic ch) a w := by
  refine leaves_tmps ?_ _ _ _ h
  have e : (a.put (some k) v).tmps.getD 2 undef = a.tmps.getD 2 undef := by
    show (a.tmps.setIfInBounds k v).getD 2 undef = _
    simp [Array.getElem?_setIfInBounds, hk]
  intro w
  rw [results_tmp (t := 2) rfl, results_tmp (t := 2) rfl, e]
set_option maxRecDepth 100000 in
set_option maxHeartbeats 8000000 in
theorem step_rest (w : World) (C : Nat → Prop) (g : Nat) (K : MK) (q : MQ) (c : Nat) (h : MAt w C g K q c) (hf : q.fin = 0) (hr : rests K q = true) (h0 : 0 ≤ q.at_) (h1 : q.at_ < K.ni) (ig : 0 ≤ (K.X q.at_.toNat).a ∧ (K.X q.at_.toNat).a < 16 ∧ 0 ≤ (K.X q.at_.toNat).b ∧ 0 ≤ (K.X q.at_.toNat).c) (hrs : ∀ j, i64in (q.regs j)) :
    Calls Try.prog 21 #[.pointer (some ⟨g, 0, none⟩)] w fun e w' => e = .returned (.bool false) ∧ MAt w' C g K q c ∧ Only C w w' := by
  obtain ⟨z0, p, h⟩ := h
  obtain ⟨w1, s, z, hw, hs, ls, M, O, i0⟩ := h.held
  have k69 := M.k69
  have hf' : (q.fin != 0) = false := by rw [hf]; rfl
  rw [hf] at k69
  have RC := Lib.hid (rests_c w1 _ z g p K q c M h0 h1 ig hrs)
  rw [hr] at RC
  have MN := Lib.hid (fun w' (hb : Below w1.heap.size w1 w') => show MAt w' C g K q c from MAt.more (D := C) ⟨z, p, M.keep (Only.ofBelow (F := fun _ => False) hb) (fun _ _ _ h => h)⟩ fun b _ hb => hb.1)
  have ON := Lib.hid (fun w' (hb : Below w1.heap.size w1 w') => O.trans (Only.ofBelow (F := C) hb) fun _ _ h => h)
  clear h M O hf hr ig hrs h0 h1
  have hmf : ∀ (fn : Go.Fn) (first cap : Array Value) (w : World), (Instr.makeFunc fn first cap).run Try.prog w = .ok (.func fn first cap) w := fun _ _ _ _ => rfl
  go_enter_defers Try.func21, Try.ntmps21
  subst hs
  subst hw
  go_wp2_with (go_at_call 37; refine RC.out.mono ?_; rintro e w2 ⟨rfl, hb⟩; have HB := Lib.hid hb; clear hb)
  exact ⟨_, results_tmp rfl _ _ _, rfl, MN.out _ HB.out, ON.out _ HB.out⟩
set_option maxRecDepth 100000 in
set_option maxHeartbeats 8000000 in
theorem step_go (w : World) (C : Nat → Prop) (g : Nat) (K : MK) (q : MQ) (c : Nat) (h : MAt w C g K q c) (hC : ∀ b, w.heap.size ≤ b → C b) (hc : c + 2 < 9000000000000) (hf : q.fin = 0) (hr : rests K q = false) (at_ : Nat) (hat : q.at_ = at_) (h1 : at_ < K.ni) (op a b d : Nat) (n : Int) (hi : K.X at_ = ⟨op, a, b, d, n⟩) (ha : a < 16) (ho2 : op ≤ 38) (hrs : ∀ j, i64in (q.regs j)) (hst : 0 ≤ q.steps) (hst2 : q.steps < 4611686018427387904) (hm : Method K q.tick op a b d n) :
    Calls Try.prog 21 #[.pointer (some ⟨g, 0, none⟩)] w fun e w' => e = .returned (.bool true) ∧ MAt w' C g K (next K q) (c + 2) ∧ Only C w w' := by
  obtain ⟨z0, p, h⟩ := h
  obtain ⟨w1, s, z, hw, hs, ls, M, O, i0⟩ := h.held
  obtain ⟨N, hN, hcall, hM⟩ := hm
  have k69 := M.k69
  have hf' : (q.fin != 0) = false := by rw [hf]; rfl
  rw [hf] at k69
  have e1 : q.at_.toNat = at_ := by omega
  have RC := Lib.hid (rests_c w1 _ z g p K q c M (by omega) (by omega) (by rw [e1, hi]; exact ⟨Int.natCast_nonneg _, by dsimp only; omega, Int.natCast_nonneg _, Int.natCast_nonneg _⟩) hrs)
  rw [hr] at RC
  have NX : Hid (next K q = act K q.tick ⟨op, a, b, d, n⟩) := by unfold next; rw [e1, hi]; rfl
  have MK_ := Lib.hid M
  have ON := Lib.hid O
  have HI := Lib.hid hi
  have HN := Lib.hid hN
  have HM := Lib.hid hM
  have hst3 : q.steps < 9223372036854775807 := by omega
  have HC := Lib.hid hC
  clear h M O hf hr hi hN hM hC
  have hmf : ∀ (fn : Go.Fn) (first cap : Array Value) (w : World), (Instr.makeFunc fn first cap).run Try.prog w = .ok (.func fn first cap) w := fun _ _ _ _ => rfl
  go_enter_defers Try.func21, Try.ntmps21
  subst hs
  subst hw
  go_wp2_with fail
  generalize w.alloc _ = w1 at *
  generalize w.heap.size = s at *
  refine RC.out.mono ?_
  rintro e w2 ⟨rfl, hb⟩
  have M2 := MK_.out.keep (Only.ofBelow (F := fun _ => False) hb) (fun _ _ _ h => h)
  have O2 := ON.out.trans (Only.ofBelow (F := C) hb) fun _ _ h => h
  have j0 := (hb.block s ls)
  have j0 : w2.cell? ⟨s, 0, none⟩ = some (.pointer (some ⟨g, 0, none⟩)) := (World.cell?_of_block j0).trans i0
  have ls2 : s < w2.heap.size := Nat.lt_of_lt_of_le ls hb.size
  clear hb RC k69 MK_ ON i0 ls
  have k72 := M2.k72
  have zz := M2.frozen
  have hgs : g ≠ s := M2.cg.2
  go_wp2_with fail
  have M3 := Lib.hid (M2.put 72 (.int .i64 (q.steps + 1)) _ (fun f hf => hf.sSteps _) rfl rfl rfl rfl rfl)
  have O3 := Lib.hid (O2.cells (p := ⟨g, 72, none⟩) M2.cg.1 (.int .i64 (q.steps + 1)))
  have j3 : (w2.setCell ⟨g, 72, none⟩ (.int .i64 (q.steps + 1))).cell? ⟨s, 0, none⟩ = some (.pointer (some ⟨g, 0, none⟩)) := (World.cell?_setCell_other _ _ _ _ (fun hh => hgs (congrArg Addr.block hh))).trans j0
  have ls3 : s < (w2.setCell ⟨g, 72, none⟩ (.int .i64 (q.steps + 1))).heap.size := World.block_lt_of_cell? _ _ j3
  clear k72 zz M2 O2 j0 ls2
  generalize World.setCell _ _ _ = w3 at *
  have k0 := M3.out.k0
  have k64 : w3.cell? ⟨g, 64, none⟩ = some (.int .i64 at_) := by rw [← hat]; exact M3.out.k64
  obtain ⟨ih, bi, off, hA, hb7, hbl, c0, c1, c2, c3, c4⟩ := M3.out.il.2 at_ h1
  rw [HI.out] at c0 c1 c2 c3 c4
  dsimp only at c0 c1 c2 c3 c4
  rw [hA] at k0
  have hai : (0 : Int) ≤ (at_ : Int) := Int.natCast_nonneg _
  have han : (at_ : Int) < (K.ni : Int) := by omega
  have hgl := M3.out.lt
  have hni : (K.ni : Int) ≤ 9223372036854775807 := by have := M3.out.il.1; omega
  have zz := M3.out.frozen
  have hsz : (w3.setCell ⟨g, 64, none⟩ (.int .i64 ((at_ : Int) + 1))).heap.size = w3.heap.size := by simp [World.setCell]
  have M4 : MZ (w3.setCell ⟨g, 64, none⟩ (.int .i64 ((at_ : Int) + 1))) (fun b => C b ∧ b ≠ s) z g p K q.tick c := by
    have := M3.out.put 64 (.int .i64 ((at_ : Int) + 1)) _ (fun f hf => hf.sAt _) rfl rfl rfl rfl rfl
    rw [← hat] at this ⊢
    exact this
  have O4 : Only C w (w3.setCell ⟨g, 64, none⟩ (.int .i64 ((at_ : Int) + 1))) := O3.out.cells (p := ⟨g, 64, none⟩) M3.out.cg.1 _
  obtain ⟨w5, s3, z5, hw5, hs5, ls5, M5, O5, i0, i1, i2, i3, i4⟩ := M4.boxed2 op a b d n
  have j5 : w5.drew.cell? ⟨s, 0, none⟩ = some (.pointer (some ⟨g, 0, none⟩)) := by
    rw [hw5]
    exact (World.cell?_alloc_past _ _ _ (by rw [hsz]; exact ls3)).trans ((World.cell?_setCell_other _ _ _ _ (fun hh => hgs (congrArg Addr.block hh))).trans j3)
  have ls6 : s < w5.drew.heap.size := World.block_lt_of_cell? _ _ j5
  have kd5 := (M5.kd op (by omega)).trans HN.out
  have O6 : Only C w w5.drew := (O4.trans O5 fun b _ hb => hb.1).drew
  have hC5 : ∀ b, w5.drew.drew.heap.size ≤ b → (C b ∧ b ≠ s) ∧ b ≠ s3 := fun b hb => by
    have h1 : w5.heap.size ≤ b := hb
    have h2 : s < w5.heap.size := ls6
    have h3 := O6.size
    have h4 : w.heap.size ≤ w5.heap.size := h3
    refine ⟨⟨?_, by omega⟩, by omega⟩
    exact HC.out b (by omega)
  have AC := Lib.hid ((HM.out w5.drew.drew (fun b => (C b ∧ b ≠ s) ∧ b ≠ s3) g c ⟨z5, p, M5.drew.drew⟩ hC5 hc).mono (fun e w' ha' => show (e = .returned (.tuple #[]) ∧ Hid (MAt w' C g K (next K q) (c + 2) ∧ Only C w w') ∧ w'.cell? ⟨s, 0, none⟩ = some (.pointer (some ⟨g, 0, none⟩)) ∧ w'.cell? ⟨s3, 0, none⟩ = some (.int .i64 op) ∧ w'.cell? ⟨s3, 1, none⟩ = some (.int .i64 a) ∧ w'.cell? ⟨s3, 2, none⟩ = some (.int .i64 b) ∧ w'.cell? ⟨s3, 3, none⟩ = some (.int .i64 d) ∧ w'.cell? ⟨s3, 4, none⟩ = some (.int .i64 n) ∧ w'.cell? ⟨g, 6 + op, none⟩ = some (.func (Go.Fn.func N) #[] #[])) ∨
      ∃ x y v q2, e = .panicked [{ v := endV x y v, recovered := false }] ∧ w'.cell? ⟨s, 0, none⟩ = some (.pointer (some ⟨g, 0, none⟩)) ∧ Hid (MAt w' C g K q2 (c + 2) ∧ Only C w w' ∧ next K q = q2.fins x y v) from by
    rcases ha' with ⟨h1, h2, h3⟩ | ⟨x, y, v, q2, h1, h2, h3, h4⟩
    · have k : ∀ o, w'.cell? ⟨s3, o, none⟩ = w5.cell? ⟨s3, o, none⟩ := fun o => h3.cell (b := s3) (o := o) ls5 (fun hb => hb.2 rfl)
      refine .inl ⟨h1, ⟨?_, O6.drew.trans h3 fun b _ hb => hb.1.1⟩, (h3.cell (b := s) (o := 0) ls6 (fun hb => hb.1.2 rfl)).trans j5, (k 0).trans i0, (k 1).trans i1, (k 2).trans i2, (k 3).trans i3, (k 4).trans i4, ?_⟩
      · rw [NX.out]; exact h2.more fun b _ hb => hb.1.1
      · obtain ⟨z6, p6, M6⟩ := h2
        exact (M6.kd op (by omega)).trans HN.out
    · exact .inr ⟨x, y, v, q2, h1, (h3.cell (b := s) (o := 0) ls6 (fun hb => hb.1.2 rfl)).trans j5, h2.more fun b _ hb => hb.1.1, O6.drew.trans h3 fun b _ hb => hb.1.1, by rw [NX.out]; exact h4⟩))
  have k5 : Hid (w5.drew.cell? ⟨s3, 0, none⟩ = some (.int .i64 op) ∧ w5.drew.cell? ⟨s3, 1, none⟩ = some (.int .i64 a) ∧ w5.drew.cell? ⟨s3, 2, none⟩ = some (.int .i64 b) ∧ w5.drew.cell? ⟨s3, 3, none⟩ = some (.int .i64 d) ∧ w5.drew.cell? ⟨s3, 4, none⟩ = some (.int .i64 n) ∧ w5.drew.cell? ⟨g, 6 + op, none⟩ = some (.func (Go.Fn.func N) #[] #[])) := ⟨i0, i1, i2, i3, i4, kd5⟩
  have J5 := Lib.hid j5
  clear ih hb7 hA M4 O4 M5 O5 i0 i1 i2 i3 i4 j5 kd5 hC5 O6 ls5 ls6
  refine wp_mono (Q := Exit.then _ fun _ _ _ => False) ?_ then_no
  go_region
  go_wp2_with fail
  rw [← hw5]
  rw [← hsz, ← hs5]
  clear hw5 hs5 hsz k0 k64 c0 c1 c2 c3 c4 zz j3 M3 O3
  generalize World.drew w5 = w6 at *
  obtain ⟨i0, i1, i2, i3, i4, kd5⟩ := k5.out
  have ho3 : (op : Int) < 39 := by omega
  have j5 := J5.out
  clear k5 J5
  refine wp_region_held_drew (S := (fun w' => w'.cell? ⟨s, 0, none⟩ = some (.pointer (some ⟨g, 0, none⟩)) ∧ w'.cell? ⟨s3, 0, none⟩ = some (.int .i64 op) ∧ w'.cell? ⟨s3, 1, none⟩ = some (.int .i64 a) ∧ w'.cell? ⟨s3, 2, none⟩ = some (.int .i64 b) ∧ w'.cell? ⟨s3, 3, none⟩ = some (.int .i64 d) ∧ w'.cell? ⟨s3, 4, none⟩ = some (.int .i64 n) ∧ w'.cell? ⟨g, 6 + op, none⟩ = some (.func (Go.Fn.func N) #[] #[]))) (by kernel_rfl) (⟨j5, i0, i1, i2, i3, i4, kd5⟩) (fun hHeld => ?_)
  refine wpAnyH_take (i := 0) (v := ?_) (by simp only [List.getElem?_toArray, List.getElem?_cons_succ, List.getElem?_cons_zero]; rfl) (by kernel_rfl) (by kernel_rfl) (by kernel_rfl) (by intro _ _ _ h; refine out21 ?_ h; decide) (Or.inl ⟨by rfl, ?_⟩) (by assumption) ?_
  rotate_left
  · (intro w hSw; (try dsimp only at hSw); go_simp; skip; with_reducible rfl)
  try simp only [Act.put, List.setIfInBounds_toArray, List.set_cons_zero, List.set_cons_succ]
  refine wpAnyH_take (i := 1) (v := ?_) (by simp only [List.getElem?_toArray, List.getElem?_cons_succ, List.getElem?_cons_zero]; rfl) (by kernel_rfl) (by kernel_rfl) (by kernel_rfl) (by intro _ _ _ h; refine out21 ?_ h; decide) (Or.inl ⟨by rfl, ?_⟩) (by assumption) ?_
  rotate_left
  · (intro w hSw; (try dsimp only at hSw); go_simp; skip; with_reducible rfl)
  try simp only [Act.put, List.setIfInBounds_toArray, List.set_cons_zero, List.set_cons_succ]
  refine wpAnyH_take (i := 2) (v := ?_) (by simp only [List.getElem?_toArray, List.getElem?_cons_succ, List.getElem?_cons_zero]; rfl) (by kernel_rfl) (by kernel_rfl) (by kernel_rfl) (by intro _ _ _ h; refine out21 ?_ h; decide) (Or.inl ⟨by rfl, ?_⟩) (by assumption) ?_
  rotate_left
  · (intro w hSw; (try dsimp only at hSw); go_simp; skip; with_reducible rfl)
  try simp only [Act.put, List.setIfInBounds_toArray, List.set_cons_zero, List.set_cons_succ]
  refine wpAnyH_take (i := 3) (v := ?_) (by simp only [List.getElem?_toArray, List.getElem?_cons_succ, List.getElem?_cons_zero]; rfl) (by kernel_rfl) (by kernel_rfl) (by kernel_rfl) (by intro _ _ _ h; refine out21 ?_ h; decide) (Or.inl ⟨by rfl, ?_⟩) (by assumption) ?_
  rotate_left
  · (intro w hSw; (try dsimp only at hSw); go_simp; skip; with_reducible rfl)
  try simp only [Act.put, List.setIfInBounds_toArray, List.set_cons_zero, List.set_cons_succ]
  refine wpAnyH_take (i := 4) (v := ?_) (by simp only [List.getElem?_toArray, List.getElem?_cons_succ, List.getElem?_cons_zero]; rfl) (by kernel_rfl) (by kernel_rfl) (by kernel_rfl) (by intro _ _ _ h; refine out21 ?_ h; decide) (Or.inl ⟨by rfl, ?_⟩) (by assumption) ?_
  rotate_left
  · (intro w hSw; (try dsimp only at hSw); go_simp; skip; with_reducible rfl)
  try simp only [Act.put, List.setIfInBounds_toArray, List.set_cons_zero, List.set_cons_succ]
  refine wpAnyH_take (i := 5) (v := ?_) (by simp only [List.getElem?_toArray, List.getElem?_cons_succ, List.getElem?_cons_zero]; rfl) (by kernel_rfl) (by kernel_rfl) (by kernel_rfl) (by intro _ _ _ h; refine out21 ?_ h; decide) (Or.inl ⟨by rfl, ?_⟩) (by assumption) ?_
  rotate_left
  · (intro w hSw; (try dsimp only at hSw); go_simp; skip; with_reducible rfl)
  try simp only [Act.put, List.setIfInBounds_toArray, List.set_cons_zero, List.set_cons_succ]
  refine wpAnyH_take (i := 6) (v := ?_) (by simp only [List.getElem?_toArray, List.getElem?_cons_succ, List.getElem?_cons_zero]; rfl) (by kernel_rfl) (by kernel_rfl) (by kernel_rfl) (by intro _ _ _ h; refine out21 ?_ h; decide) (Or.inl ⟨by rfl, ?_⟩) (by assumption) ?_
  rotate_left
  · (intro w hSw; (try dsimp only at hSw); go_simp; skip; with_reducible rfl)
  try simp only [Act.put, List.setIfInBounds_toArray, List.set_cons_zero, List.set_cons_succ]
  refine wpAnyH_take (i := 7) (v := ?_) (by simp only [List.getElem?_toArray, List.getElem?_cons_succ, List.getElem?_cons_zero]; rfl) (by kernel_rfl) (by kernel_rfl) (by kernel_rfl) (by intro _ _ _ h; refine out21 ?_ h; decide) (Or.inl ⟨by rfl, ?_⟩) (by assumption) ?_
  rotate_left
  · (intro w hSw; (try dsimp only at hSw); go_simp; skip; with_reducible rfl)
  try simp only [Act.put, List.setIfInBounds_toArray, List.set_cons_zero, List.set_cons_succ]
  refine wpAnyH_take (i := 8) (v := ?_) (by simp only [List.getElem?_toArray, List.getElem?_cons_succ, List.getElem?_cons_zero]; rfl) (by kernel_rfl) (by kernel_rfl) (by kernel_rfl) (by intro _ _ _ h; refine out21 ?_ h; decide) (Or.inl ⟨by rfl, ?_⟩) (by assumption) ?_
  rotate_left
  · (intro w hSw; (try dsimp only at hSw); go_simp; skip; with_reducible rfl)
  try simp only [Act.put, List.setIfInBounds_toArray, List.set_cons_zero, List.set_cons_succ]
  refine wpAnyH_ready (rs := [9]) (by kernel_rfl) (by simp) ?_
  refine AllReadyH.cons (by simp only [List.getElem?_toArray, List.getElem?_cons_succ, List.getElem?_cons_zero]; rfl) (fun K hK => ?_) ?_
  · go_simp
    refine AC.out.mono ?_
    rintro e w7 (⟨rfl, HF, t0, t1, t2, t3, t4, t5, t6⟩ | ⟨x, y, v, q2, rfl, l0, HF⟩)
    rotate_left
    · refine leaves_cons (f := 38) (args := #[.pointer (some ⟨s, 0, none⟩)]) (by simp) (by simp [go_sem]) ?_
      refine (catch_stop w7 C g _ q2 (c + 2) HF.out.1 s hgs l0 x y v).mono ?_
      rintro e u2 w8 ⟨rfl, rfl, hM8, hO8⟩
      exact ⟨_, results_tmp rfl _ _ _, rfl, by rw [HF.out.2.2]; exact hM8, HF.out.2.1.trans hO8 fun _ _ h => h⟩
    refine hK.out _ _ (⟨t0, t1, t2, t3, t4, t5, t6⟩) (fun hHeld => ?_)
    clear hK K
    try simp only [Act.put, List.setIfInBounds_toArray, List.set_cons_zero, List.set_cons_succ]
    refine wpAnyH_done (by kernel_rfl) ?_ _
    go_wp2_with fail
    refine leaves_cons (f := 38) (args := #[.pointer (some ⟨s, 0, none⟩)]) (by simp) (by simp [go_sem]) ?_
    refine (catch_idle ⟨s, 0, none⟩ _).mono ?_
    rintro e u2 w8 ⟨rfl, rfl, rfl⟩
    exact ⟨_, results_tmp rfl _ _ _, rfl, HF.out⟩
  exact AllReadyH.nil
/-- A machine that stands, all that is always so of it too. -/
def MO (w : World) (C : Nat → Prop) (g : Nat) (K : MK) (q : MQ) : Prop := Good K q ∧ 0 ≤ q.steps ∧ MAt w C g K q (2 * q.steps.toNat + 2)
theorem MO.keep {w w' : World} {C F : Nat → Prop} {g : Nat} {K : MK} {q : MQ} (h : MO w C g K q) (o : Only F w w') (hF : ∀ b, b < w.heap.size → C b → ¬ F b) : MO w' C g K q := ⟨h.1, h.2.1, h.2.2.keep o hF⟩
theorem MO.more {w : World} {C D : Nat → Prop} {g : Nat} {K : MK} {q : MQ} (h : MO w C g K q) (hG : ∀ b, b < w.heap.size → C b → D b) : MO w D g K q := ⟨h.1, h.2.1, h.2.2.more hG⟩
def stepTo (K : MK) (q : MQ) : MQ := if goes K q = true then next K q else q
theorem step_c {K : MK} (s : Sound K) (w : World) (C : Nat → Prop) (g : Nat) (q : MQ) (h : MO w C g K q) (hC : ∀ b, w.heap.size ≤ b → C b) (hst : q.steps < 4000000000000) :
    Calls Try.prog 21 #[.pointer (some ⟨g, 0, none⟩)] w fun e w' => e = .returned (.bool (goes K q)) ∧ MO w' C g K (stepTo K q) ∧ Only C w w' := by
  obtain ⟨gd, h0, hm⟩ := h
  unfold stepTo
  by_cases hf : q.fin = 0
  · obtain ⟨mid, ig, xn, a0, a1⟩ := mid_of s gd hf
    rw [goes_of hf]
    obtain ⟨at_, hat⟩ := Int.eq_ofNat_of_zero_le a0
    have e1 : q.at_.toNat = at_ := by omega
    cases hr : rests K q with
    | true =>
      rw [Bool.not_true, if_neg (by decide)]
      exact (step_rest w C g K q _ hm hf hr a0 a1 ⟨ig.a0, ig.a1, ig.b0, ig.c0⟩ gd.regs).mono fun e w' he => ⟨he.1, ⟨gd, h0, he.2.1⟩, he.2.2⟩
    | false =>
      rw [Bool.not_false, if_pos rfl]
      have gn := good_next s gd (by rw [goes_of hf, hr]; rfl)
      rw [e1] at ig xn
      cases hi : K.X at_ with
      | mk op ia ib ic n =>
      rw [hi] at ig xn
      have o1 := ig.o1
      have o2 := ig.o2
      have b1 := ig.a1
      obtain ⟨a, ha⟩ := Int.eq_ofNat_of_zero_le ig.a0
      obtain ⟨b, hb⟩ := Int.eq_ofNat_of_zero_le ig.b0
      obtain ⟨d, hd⟩ := Int.eq_ofNat_of_zero_le ig.c0
      dsimp only at o1 o2 b1 ha hb hd xn
      obtain ⟨o, ho⟩ := Int.eq_ofNat_of_zero_le (show 0 ≤ op by omega)
      subst ha hb hd ho
      refine (step_go w C g K q _ hm hC (by omega) hf hr at_ hat (by omega) o a b d n hi (by omega) (by omega) gd.regs h0 (by omega) (method_c s mid _ a b d n ig xn)).mono fun e w' he => ⟨he.1, ⟨gn, ?_, ?_⟩, he.2.2⟩
      · rw [next_steps]; omega
      · rw [next_steps, show 2 * (q.steps + 1).toNat + 2 = 2 * q.steps.toNat + 2 + 2 by omega]
        exact he.2.1
  · rw [goes_no hf, if_neg (by decide)]
    exact (step_no w C g K q _ hm hf).mono fun e w' he => ⟨he.1, ⟨gd, h0, he.2.1⟩, he.2.2⟩
end Go.Proofs.Ytkjfbojmkkdgoaa
