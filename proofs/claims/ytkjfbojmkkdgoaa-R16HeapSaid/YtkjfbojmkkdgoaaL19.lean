/- R16Heap: the walk. -/
import Derived.Test.YtkjfbojmkkdgoaaL18
import Derived.Test.YtkjfbojmkkdgoaaL3
import Derived.Test.YtkjfbojmkkdgoaaL10
import Derived.Deep.DeepCutAuto
import Derived.Deep.CutBlock
import Derived.Deep.DrawnRows
import Derived.BigQuiet
set_option linter.unusedVariables false
set_option linter.unusedSimpArgs false
namespace Go.Proofs.Ytkjfbojmkkdgoaa
open Go.RowKit
attribute [local go_sem ↓] Go.wp_at_zero Go.wp_at_succ
def zOf (xs : List Int) : List Int := xs.map fun x => bits .and .i64 x 16383
theorem zOf_in (xs : List Int) : ∀ n ∈ zOf xs, 0 ≤ n ∧ n ≤ 16383 := by
  intro n hn
  obtain ⟨x, _, rfl⟩ := List.mem_map.1 hn
  have := and_rng x 16383 (by decide)
  rwa [show ((16383 : Nat) : Int) = 16383 from rfl] at this
/-- One round. -/
structure HR (w wx : World) (H : Int) (xs : List Int) (S : HG) (i : Nat) (s : HG) (v5 v6 : Value) : Prop where
  hp : HP w wx v5 v6 s.ins s.want
  hb : HB s i
  ends : s.ends = false
  rest : hruns H ((zOf xs).drop i) s = S
theorem HR.end_ {w wx : World} {H : Int} {xs : List Int} {S s : HG} {i : Nat} {v5 v6 : Value} (h : HR w wx H xs S i s v5 v6) (hi : xs.length ≤ i) : s = S := by
  have := h.rest
  rwa [List.drop_eq_nil_of_le (by unfold zOf; simpa using hi)] at this
theorem HR.next_ {w wx : World} {H : Int} {xs : List Int} {S s : HG} {i : Nat} {v5 v6 : Value} (h : HR w wx H xs S i s v5 v6) (hi : i < xs.length) : hruns H ((zOf xs).drop (i + 1)) (hstep H s (bits .and .i64 (xs.getD i 0) 16383)) = S := by
  have := h.rest
  rw [List.drop_eq_getElem_cons (by unfold zOf; simpa using hi)] at this
  rw [show (zOf xs)[i]'(by unfold zOf; simpa using hi) = bits .and .i64 (xs.getD i 0) 16383 by unfold zOf; rw [List.getElem_map, List.getD_eq_getElem?_getD, List.getElem?_eq_getElem hi]; rfl] at this
  unfold hruns at this
  rwa [if_neg (by rw [h.ends]; decide)] at this
theorem HP.il {w wx : World} {A : Option Addr} {n c : Nat} {v6 : Value} {want : List Int} {i : Nat} {s : HG} (h : HP w wx (.slice A n c) v6 (s.ins ++ [⟨27, 0, 0, 0, 0⟩]) want) (hn : n = (s.ins ++ [(⟨27, 0, 0, 0, 0⟩ : Ins)]).length) (hb : HB s i) (hi : i ≤ 1000) : IL wx (fun b => b < wx.heap.size) A n (insOf (s.ins ++ [⟨27, 0, 0, 0, 0⟩])) ∧ n ≤ c ∧ (A = none → c = 0) := by
  obtain ⟨F5, F6, r5, r6, dj, lo, on⟩ := h
  have hl := hb.il
  have hn2 : n = s.ins.length + 1 := by rw [hn, List.length_append]; rfl
  rw [← insC_many, ← hn] at r5
  obtain ⟨A2, cap2, e2, hcap, IL2⟩ := r5.il (by rw [hn]; exact heap_in hb) (by omega)
  injection e2 with e2 e5 e3
  clear e5
  subst e2 e3
  refine ⟨IL2.tr (Only.refl (fun _ => False) wx) fun b hb _ => ⟨fun h => h, hb⟩, hcap, fun h => ?_⟩
  obtain ⟨g2, cap2', e2, -⟩ := r5.form (by omega)
  subst h
  injection e2 with e2
  cases e2
theorem heap_one (w w8 : World) (A : Option Addr) (n c : Nat) (v6 : Value) (s : HG) (xs : List Int) (h : Int) (h0 : 0 ≤ h) (h1 : h ≤ 1048575) (hl : xs.length ≤ 300) (hs : hruns h (zOf xs) ⟨[], [], 1, false⟩ = s) (hb : HB s xs.length) (hn : n = (s.ins ++ [(⟨27, 0, 0, 0, 0⟩ : Ins)]).length) (H : HP w w8 (.slice A n c) v6 (s.ins ++ [⟨27, 0, 0, 0, 0⟩]) s.want) :
    ∃ fi ki va st dp : Int, ((s.ends = true ∧ fi = 2 ∧ ki = 8 ∧ st = (n : Int) - 1) ∨ (s.ends = false ∧ fi = 1 ∧ st = (n : Int))) ∧
      Calls Try.prog 24 #[.slice A n c, .int .i64 2, .agg #[.int .i64 2, .int .i64 h], .slice none 0 0, .int .i64 ((n : Int) + 1)] w8 fun e w' => ∃ Ae ce, e = .returned (.tuple #[.agg #[.slice Ae s.want.length ce, .int .i64 fi, .int .i64 ki, .int .i64 va, .int .i64 st, .int .i64 (s.next - 1), .int .i64 dp], .bool true]) ∧ Row w' (fun b => w8.heap.size ≤ b) 50 2 (.slice Ae s.want.length ce) s.want.length (evs (evOf s.want)) ∧ Below w8.heap.size w8 w' := by
  obtain ⟨I, hc, hA⟩ := H.il hn hb (by omega)
  have hil := hb.il
  have hn2 : n = s.ins.length + 1 := by rw [hn, List.length_append]; rfl
  have E := heap_ends h (by omega) (zOf xs) (zOf_in xs) (by unfold zOf; rw [List.length_map]; exact hl) s hs
  have ef : ((n : Int) + 1).toNat = s.ins.length + 2 := by omega
  have OC := one_c w8 (fun b => b < w8.heap.size) (fun _ h => h) A n c (insOf (s.ins ++ [⟨27, 0, 0, 0, 0⟩])) 2 ⟨by decide, by decide⟩ I hc hA (by omega) (by have := heap_code hb; rw [← hn] at this; exact this) 2 h (by decide) (by decide) (by omega) (by omega) ((n : Int) + 1) (by omega) (by omega) (by
    rw [ef]
    have := madeN_le ({ ni := n, X := insOf (s.ins ++ [⟨27, 0, 0, 0, 0⟩]), nf := 1, Fs := mainF 2 n, mn := 0, sl := 2, hl := h } : MK) (s.ins.length + 2) (newQ ({ ni := n, X := insOf (s.ins ++ [⟨27, 0, 0, 0, 0⟩]), nf := 1, Fs := mainF 2 n, mn := 0, sl := 2, hl := h } : MK) [])
    omega)
  have ek : ({ ni := n, X := insOf (s.ins ++ [⟨27, 0, 0, 0, 0⟩]), nf := 1, Fs := mainF 2 n, mn := 0, sl := 2, hl := h } : MK) = heapK (s.ins ++ [⟨27, 0, 0, 0, 0⟩]) h := by unfold heapK; rw [hn]
  rw [ef, ek] at OC
  generalize runN (heapK (s.ins ++ [⟨27, 0, 0, 0, 0⟩]) h) (s.ins.length + 2) (newQ (heapK (s.ins ++ [⟨27, 0, 0, 0, 0⟩]) h) []) = qf at *
  obtain ⟨e1, e2, e3⟩ := E
  have el : qf.ev.length = s.want.length := by rw [e1, evOf_length]
  refine ⟨qf.fin, qf.kind, qf.val, qf.steps, qf.depth, ?_, OC.mono ?_⟩
  · rcases e3 with ⟨a, b, c, d⟩ | ⟨a, b, d⟩
    · exact .inl ⟨a, b, c, by rw [d]; omega⟩
    · exact .inr ⟨a, b, by rw [d]; omega⟩
  · rintro e w' ⟨v, rfl, R, B⟩
    obtain ⟨Ae, ce, rfl, -⟩ := R.shape
    rw [el, e1] at R
    unfold outR
    rw [el, e2]
    exact ⟨Ae, ce, rfl, R, B⟩
/-- What lies there while the events are looked at. -/
structure HZ (w wx : World) (v5 v6 : Value) (ins : List Ins) (want : List Int) (Fe : Nat → Prop) (Ae : Option Addr) (ce c0 : Nat) (cs : Array Value) : Prop where
  hp : HP w wx v5 v6 ins want
  ev : Row wx Fe 50 2 (.slice Ae want.length ce) want.length (evs (evOf want))
  blk : Blk wx c0 44 cs
theorem HZ.quiet {w wx wy : World} {v5 v6 : Value} {ins : List Ins} {want : List Int} {Fe : Nat → Prop} {Ae : Option Addr} {ce c0 : Nat} {cs : Array Value} (h : HZ w wx v5 v6 ins want Fe Ae ce c0 cs) (o : Only (fun _ => False) wx wy) : HZ w wy v5 v6 ins want Fe Ae ce c0 cs :=
  ⟨h.hp.quiet o, h.ev.tr o (fun _ _ h => ⟨fun h => h, h⟩), h.blk.only o (fun h => h)⟩
theorem HP.want {w wx : World} {v5 : Value} {A : Option Addr} {n c : Nat} {ins : List Ins} {want : List Int} (h : HP w wx v5 (.slice A n c) ins want) (hn : want.length = n) {j : Nat} (hj : j < want.length) : ∃ b, A = some ⟨b, 0, none⟩ ∧ wx.cell? ⟨b, j, none⟩ = some (.int .i64 (want.getD j 0)) := by
  subst hn
  obtain ⟨F5, F6, r5, r6, dj, lo, on⟩ := h
  obtain ⟨b, c2, e, -⟩ := r6.form (by omega)
  injection e with e1 e5 e3
  subst e1 e3
  refine ⟨b, rfl, r6.cell ?_⟩
  unfold nums
  rw [List.getElem?_map, List.getElem?_eq_getElem hj, List.getD_eq_getElem?_getD, List.getElem?_eq_getElem hj]
  rfl
theorem HP.low {w wx : World} {v5 v6 : Value} {ins : List Ins} {want : List Int} (h : HP w wx v5 v6 ins want) : Below w.heap.size w wx := by
  obtain ⟨F5, F6, r5, r6, dj, lo, on⟩ := h
  exact on.toBelow (Nat.le_refl _) fun _ _ h => h
theorem evs_of (want : List Int) {j : Nat} (hj : j < want.length) : (evs (evOf want))[j * 2]? = some (.int .i64 1) ∧ (evs (evOf want))[j * 2 + 1]? = some (.int .i64 (want.getD j 0)) := by
  have e : (evOf want)[j]? = some (1, want.getD j 0) := by
    unfold evOf
    rw [List.getElem?_map, List.getElem?_eq_getElem hj, List.getD_eq_getElem?_getD, List.getElem?_eq_getElem hj]
    rfl
  have := evs_at (evOf want) j _ e
  rwa [Nat.mul_comm 2 j] at this
set_option maxRecDepth 100000 in
set_option maxHeartbeats 8000000 in
theorem heap_big (w : World) (A : Option Addr) (len cap : Nat) (h0 : Int) (hl : 300 < (len : Int)) : Calls Try.prog 8 #[.slice A len cap, .int .i64 h0] w fun e w' => e = .returned (.bool true) ∧ Below w.heap.size w w' := by
  go_enter Try.func8, Try.ntmps8
  go_wp2_with fail
  go_ret
  exact ⟨rfl, Below.refl _ _⟩
set_option maxRecDepth 100000 in
set_option maxHeartbeats 16000000 in
theorem heap_c (w : World) (A : Option Addr) (len cap : Nat) (xs : List Int) (hx : xs.length = len) (hN : NL w (fun b => b < w.heap.size) A xs) (hxw : ∀ x ∈ xs, i64in x) (h0 h : Int) (hh : bits .and .i64 h0 1048575 = h) (hh0 : 0 ≤ h) (hh1 : h ≤ 1048575) (hl : (len : Int) ≤ 300) (S : HG) (hS : hruns h (zOf xs) ⟨[], [], 1, false⟩ = S) :
    Calls Try.prog 8 #[.slice A len cap, .int .i64 h0] w fun e w' => e = .returned (.bool true) ∧ Below w.heap.size w w' := by
  have HX := Lib.hid hx
  have HN := Lib.hid hN
  have HS := Lib.hid hS
  have BS : Hid (HB S xs.length) := by
    have := HB.runs h (zOf xs) _ 0 HB.zero (zOf_in xs) (by unfold zOf; rw [List.length_map, hx]; omega)
    rw [hS, Nat.zero_add] at this
    unfold zOf at this
    rwa [List.length_map] at this
  have R0 : Hid (HR w w h xs S 0 ⟨[], [], 1, false⟩ (.slice none 0 0) (.slice none 0 0)) := ⟨HP.start w, HB.zero, rfl, by rw [List.drop_zero]; exact hS⟩
  have ONE := Lib.hid insC_one
  have ONEN := Lib.hid nums_one1
  clear hx hN hxw hS
  go_enter Try.func8, Try.ntmps8
  go_upto_block 0 with fail
  go_cut [5, 6, 7, 8, 9, 10] from 14 (fun v5 v6 v7 v8 v9 v10 wx => ∃ A5 c5 A6 c6, v5 = .slice A5 S.ins.length c5 ∧ v6 = .slice A6 S.want.length c6 ∧ v7 = .int .i64 S.next ∧ v8 = .bool S.ends ∧ Hid (HP w wx (.slice A5 S.ins.length c5) (.slice A6 S.want.length c6) S.ins S.want))
  case first =>
    go_wp2_with fail
    go_loopg [5, 6, 7, 8, 9, 10] (len) (fun gk v5 v6 v7 v8 v9 v10 wx => ∃ (s : HG) (i : Nat) (A5 : Option Addr) (c5 : Nat) (A6 : Option Addr) (c6 : Nat), v5 = .slice A5 s.ins.length c5 ∧ v6 = .slice A6 s.want.length c6 ∧ v7 = .int .i64 s.next ∧ v8 = .bool false ∧ v9 = .int .i64 (i : Int) ∧ i + gk = len ∧ Hid (HR w wx h xs S i s (.slice A5 s.ins.length c5) (.slice A6 s.want.length c6)))
    case atStart => exact ⟨⟨[], [], 1, false⟩, 0, none, 0, none, 0, rfl, rfl, rfl, rfl, rfl, by omega, R0⟩
    case round =>
      clear R0
      obtain ⟨s, i, A5, c5, A6, c6, rfl, rfl, rfl, rfl, rfl, hig, R⟩ := hrel
      by_cases hi : i < len
      · obtain ⟨m, rfl⟩ : ∃ m, gk = m + 1 := ⟨gk - 1, by omega⟩
        obtain ⟨b, off, rfl, _, hbl, hc⟩ := HN.out.2 i (by rw [HX.out]; exact hi)
        have hc := (R.out.hp.quiet_cell hbl _).trans hc
        have NX := Lib.hid (R.out.next_ (by rw [HX.out]; exact hi))
        generalize xs.getD i 0 = x at *
        obtain ⟨z0, z1⟩ := and_rng x 16383 (by decide)
        rw [show ((16383 : Nat) : Int) = 16383 from rfl] at z0 z1
        obtain ⟨z, hz⟩ : ∃ z, bits .and .i64 x 16383 = z := ⟨_, rfl⟩
        rw [hz] at NX z0 z1
        have B := R.out.hb
        have hn0 := B.n0
        have hn1 := B.n1
        have hil := B.il
        have hwl := B.wl
        have B := Lib.hid B
        obtain ⟨F5, r5, k5⟩ := R.out.hp.app5
        have R5 := Lib.hid r5
        have K5 := Lib.hid k5
        have EN := Lib.hid R.out.ends
        clear r5 k5 R
        obtain ⟨n2, HL2⟩ : ∃ n2, Hid (n2 = (s.ins ++ hpart z).length) := ⟨_, rfl⟩
        have hl2 : n2 ≤ s.ins.length + 2 := by rw [HL2.out, List.length_append]; exact Nat.le_refl _
        go_upto_region 13 with (at_builtin; go_must (refine wpList_app rfl (.tmp 34) (.tmp 38) 22 rfl app22 F5 _ s.ins.length _ rfl (R5.out _) _ 2 2 (insC (hpart z)) rfl rfl (fun h => by cases h) (Blk.news (blk_at rfl) (by kernel_rfl)) (ONE.out _) (by omega) (by decide) n2 (by rw [HL2.out, List.length_append]; rfl) _ (insC_app _ _) ?_); go_must (intro B5 d5 w5 r o; have H5 := Lib.hid (K5.out _ _ _ _ _ _ HL2.out r o); clear r o))
        clear R5 K5
        by_cases hbig : h < s.next + z
        · have hS : hstep h s z = { s with ins := s.ins ++ hpart z, ends := true } := if_pos hbig
          have NX := NX.out
          rw [hS, hruns_ends _ _ _ rfl] at NX
          have E1 : Hid (n2 = S.ins.length) := by rw [← NX]; exact HL2.out
          have E2 : Hid (s.want.length = S.want.length) := by rw [← NX]; rfl
          have E3 : Hid (s.next = S.next) := by rw [← NX]; rfl
          have E4 : Hid (S.ends = true) := by rw [← NX]; rfl
          have H7 : Hid (HP w w5 (.slice B5 n2 d5) (.slice A6 s.want.length c6) S.ins S.want) := by rw [← NX]; exact H5.out
          clear NX hS H5
          go_wp2_with fail
          go_meet
          case rel => exact ⟨B5, d5, A6, c6, by rw [E1.out], by rw [E2.out], by rw [E3.out], by rw [E4.out], by have := H7.out; rw [E1.out, E2.out] at this; exact this⟩
        · have hS : Hid (hstep h s z = { ins := s.ins ++ hall z, want := s.want ++ hwant s.next z, next := s.next + z + 1, ends := false }) := if_neg hbig
          obtain ⟨G5, r5, k5⟩ := H5.out.app5
          rw [← HL2.out] at r5
          have R5 := Lib.hid r5
          have K5 := Lib.hid k5
          clear r5 k5 H5
          obtain ⟨n3, HL3⟩ : ∃ n3, Hid (n3 = (s.ins ++ hpart z ++ hrest).length) := ⟨_, rfl⟩
          have hl3 : n3 ≤ n2 + 3 := by rw [HL3.out, HL2.out, @List.length_append Ins (s.ins ++ hpart z)]; exact Nat.le_refl _
          go_upto_region 16 with (at_builtin; go_must (refine wpList_app rfl (.tmp 45) (.tmp 49) 22 rfl app22 G5 _ n2 _ rfl (R5.out _) _ 3 3 (insC hrest) rfl rfl (fun h => by cases h) (Blk.news (blk_at rfl) (by kernel_rfl)) (ONE.out _) (by omega) (by decide) n3 (by rw [HL3.out, HL2.out, @List.length_append Ins (s.ins ++ hpart z)]; rfl) _ (insC_app _ _) ?_); go_must (intro B5 d5 w5 r o; have H5 := Lib.hid (K5.out _ _ _ _ _ _ HL3.out r o); clear r o))
          clear R5 K5
          obtain ⟨G6, r6, k6⟩ := H5.out.app6
          have R6 := Lib.hid r6
          have K6 := Lib.hid k6
          clear r6 k6 H5
          obtain ⟨m2, HM2⟩ : ∃ m2, Hid (m2 = (s.want ++ [s.next, z]).length) := ⟨_, rfl⟩
          have hm2 : m2 ≤ s.want.length + 2 := by rw [HM2.out, List.length_append]; exact Nat.le_refl _
          go_upto_region 17 with (at_builtin; go_must (refine wpList_app rfl (.tmp 51) (.tmp 54) 36 rfl app36 G6 _ s.want.length _ rfl (R6.out _) _ 2 2 (nums [s.next, z]) rfl rfl (fun h => by cases h) (Blk.news (blk_at rfl) (by kernel_rfl)) (ONEN.out _) (by omega) (by decide) m2 (by rw [HM2.out, List.length_append]; rfl) _ (nums_app _ _) ?_); go_must (intro B6 d6 w6 r o; have H6 := Lib.hid (K6.out _ _ _ _ _ _ HM2.out r o); clear r o))
          clear R6 K6
          by_cases hz0 : 0 < z
          · obtain ⟨J5, r5, k5⟩ := H6.out.app5
            rw [← HL3.out] at r5
            have R5 := Lib.hid r5
            have K5 := Lib.hid k5
            clear r5 k5 H6
            obtain ⟨n4, HL4⟩ : ∃ n4, Hid (n4 = (s.ins ++ hpart z ++ hrest ++ hword z).length) := ⟨_, rfl⟩
            go_upto_region 19 with (at_builtin; go_must (refine wpList_app rfl (.tmp 58) (.tmp 67) 22 rfl app22 J5 _ n3 _ rfl (R5.out _) _ 6 6 (insC (hword z)) rfl rfl (fun h => by cases h) (Blk.news (blk_at rfl) (by kernel_rfl)) (ONE.out _) (by omega) (by decide) n4 (by rw [HL4.out, HL3.out, @List.length_append Ins (s.ins ++ hpart z ++ hrest)]; rfl) _ (insC_app _ _) ?_); go_must (intro B5 d5 w5 r o; have H5 := Lib.hid (K5.out _ _ _ _ _ _ HL4.out r o); clear r o))
            clear R5 K5
            obtain ⟨J6, r6, k6⟩ := H5.out.app6
            rw [← HM2.out] at r6
            have R6 := Lib.hid r6
            have K6 := Lib.hid k6
            clear r6 k6 H5
            obtain ⟨m3, HM3⟩ : ∃ m3, Hid (m3 = (s.want ++ [s.next, z] ++ [0, z]).length) := ⟨_, rfl⟩
            go_upto_region 20 with (at_builtin; go_must (refine wpList_app rfl (.tmp 69) (.tmp 71) 36 rfl app36 J6 _ m2 _ rfl (R6.out _) _ 2 2 (nums [0, z]) rfl rfl (fun h => by cases h) (Blk.news (blk_at rfl) (by kernel_rfl)) (ONEN.out _) (by omega) (by decide) m3 (by rw [HM3.out, HM2.out, @List.length_append Int (s.want ++ [s.next, z])]; rfl) _ (nums_app _ _) ?_); go_must (intro B6 d6 w6 r o; have H6 := Lib.hid (K6.out _ _ _ _ _ _ HM3.out r o); clear r o))
            clear R6 K6
            have e5 : s.ins ++ hpart z ++ hrest ++ hword z = (hstep h s z).ins := by rw [hS.out]; show _ = s.ins ++ hall z; unfold hall; rw [if_pos hz0]; simp [List.append_assoc]
            have e6 : s.want ++ [s.next, z] ++ [0, z] = (hstep h s z).want := by rw [hS.out]; show _ = s.want ++ hwant s.next z; unfold hwant; rw [if_pos hz0]; simp [List.append_assoc]
            have e7 : s.next + z + 1 = (hstep h s z).next := by rw [hS.out]
            have e8 := Lib.hid (B.out.step h z ⟨by omega, by omega⟩ (by omega))
            have e9 : Hid ((hstep h s z).ends = false) := by rw [hS.out]; rfl
            have HRn : Hid (HR w w6 h xs S (i + 1) (hstep h s z) (.slice B5 n4 d5) (.slice B6 m3 d6)) := ⟨by have := H6.out; rw [e5, e6] at this; exact this, e8.out, e9.out, NX.out⟩
            have E5 : Hid (n4 = (hstep h s z).ins.length) := by rw [← e5]; exact HL4.out
            have E6 : Hid (m3 = (hstep h s z).want.length) := by rw [← e6]; exact HM3.out
            have E7 := Lib.hid e7
            clear H6 B EN hS e5 e6 e7
            go_wp2_with fail
            go_roundg m
            case rel => exact ⟨hstep h s z, i + 1, B5, d5, B6, d6, by rw [E5.out], by rw [E6.out], by rw [← E7.out], rfl, by go_num, by omega, by have := HRn.out; rw [E5.out, E6.out] at this; exact this⟩
            case measure => omega
          · have hz00 : z = 0 := by omega
            have e5 : s.ins ++ hpart z ++ hrest = (hstep h s z).ins := by rw [hS.out]; show _ = s.ins ++ hall z; unfold hall; rw [if_neg hz0]; simp [List.append_assoc]
            have e6 : s.want ++ [s.next, z] = (hstep h s z).want := by rw [hS.out]; show _ = s.want ++ hwant s.next z; unfold hwant; rw [if_neg hz0]; simp [List.append_assoc]
            have e7 : s.next + z + 1 = (hstep h s z).next := by rw [hS.out]
            have e8 := Lib.hid (B.out.step h z ⟨by omega, by omega⟩ (by omega))
            have e9 : Hid ((hstep h s z).ends = false) := by rw [hS.out]; rfl
            have HRn : Hid (HR w w6 h xs S (i + 1) (hstep h s z) (.slice B5 n3 d5) (.slice B6 m2 d6)) := ⟨by have := H6.out; rw [e5, e6] at this; exact this, e8.out, e9.out, NX.out⟩
            have E5 : Hid (n3 = (hstep h s z).ins.length) := by rw [← e5]; exact HL3.out
            have E6 : Hid (m2 = (hstep h s z).want.length) := by rw [← e6]; exact HM2.out
            have E7 := Lib.hid e7
            clear H6 B EN hS e5 e6 e7
            go_wp2_with fail
            go_roundg m
            case rel => exact ⟨hstep h s z, i + 1, B5, d5, B6, d6, by rw [E5.out], by rw [E6.out], by rw [← E7.out, hz00]; congr 1; omega, rfl, by go_num, by omega, by have := HRn.out; rw [E5.out, E6.out] at this; exact this⟩
            case measure => omega
      · have hd : ¬ (i : Int) < (len : Int) := by omega
        have e := R.out.end_ (by rw [HX.out]; omega)
        have en := R.out.ends
        subst e
        have HPE := Lib.hid R.out.hp
        have ENS := Lib.hid en
        clear R en
        go_wp2_with fail
        go_meet
        case rel => exact ⟨_, _, _, _, rfl, rfl, rfl, by rw [ENS.out], HPE⟩
  case rest =>
  obtain ⟨A5, c5, A6, c6, rfl, rfl, rfl, rfl, H⟩ := hcut
  obtain ⟨F5, r5, k5⟩ := H.out.app5
  have R5 := Lib.hid r5
  have K5 := Lib.hid k5
  have hil := BS.out.il
  have hwl := BS.out.wl
  rw [HX.out] at hil hwl
  have hn0 := BS.out.n0
  have hn1 := BS.out.n1
  rw [HX.out] at hn1
  clear r5 k5 H R0
  obtain ⟨n5, HL5⟩ : ∃ n5, Hid (n5 = (S.ins ++ [(⟨27, 0, 0, 0, 0⟩ : Ins)]).length) := ⟨_, rfl⟩
  have hl5 : n5 ≤ S.ins.length + 1 := by rw [HL5.out, List.length_append]; exact Nat.le_refl _
  go_upto_region 22 with (at_builtin; go_must (refine wpList_app rfl (.tmp 77) (.tmp 79) 22 rfl app22 F5 _ S.ins.length _ rfl (R5.out _) _ 1 1 (insC [⟨27, 0, 0, 0, 0⟩]) rfl rfl (fun h => by cases h) (Blk.news (blk_at rfl) (by kernel_rfl)) (ONE.out _) (by omega) (by decide) n5 (by rw [HL5.out, List.length_append]; rfl) _ (insC_app _ _) ?_); go_must (intro B5 d5 w5 r o; have H5 := Lib.hid (K5.out _ _ _ _ _ _ HL5.out r o); clear r o))
  obtain ⟨fi, ki, va, st, dp, hcase, OC⟩ := heap_one w w5 B5 n5 d5 (.slice A6 S.want.length c6) S xs h hh0 hh1 (by rw [HX.out]; omega) HS.out BS.out HL5.out H5.out
  have OC := Lib.hid OC
  have HC := Lib.hid hcase
  clear hcase R5 K5
  go_upto_region 23 with (go_at_call 24; refine OC.out.mono ?_; rintro e w6 ⟨Ae, ce, rfl, Re, be⟩)
  have O67 : Only (fun _ => False) w5 (w6.alloc (.cells #[.slice Ae S.want.length ce, .int .i64 fi, .int .i64 ki, .int .i64 va, .int .i64 st, .int .i64 (S.next - 1), .int .i64 dp] 44)) := (Only.ofBelow (F := fun _ => False) be).alloc _
  have Z7 : Hid (HZ w (w6.alloc (.cells #[.slice Ae S.want.length ce, .int .i64 fi, .int .i64 ki, .int .i64 va, .int .i64 st, .int .i64 (S.next - 1), .int .i64 dp] 44)) (.slice B5 n5 d5) (.slice A6 S.want.length c6) (S.ins ++ [⟨27, 0, 0, 0, 0⟩]) S.want (fun b => w5.heap.size ≤ b) Ae ce w6.heap.size #[.slice Ae S.want.length ce, .int .i64 fi, .int .i64 ki, .int .i64 va, .int .i64 st, .int .i64 (S.next - 1), .int .i64 dp]) :=
    ⟨H5.out.quiet O67, Re.alloc _, blk_at rfl⟩
  clear O67 Re be OC H5
  generalize World.alloc w6 _ = w7 at *
  generalize w6.heap.size = c0 at *
  go_wp2_with fail
  refine (alive_c w7).mono ?_
  rintro e w8 ⟨rfl, b8⟩
  have Z8 := Lib.hid (Z7.out.quiet (Only.ofBelow b8))
  clear b8 Z7
  have x0 := Z8.out.blk.cell 0
  have x5 := Z8.out.blk.cell 5
  simp only [List.getElem?_toArray, List.getElem?_cons_zero, List.getElem?_cons_succ] at x0 x5
  generalize hW : S.want.length = nw at *
  have HW := Lib.hid hW
  have HNW : Hid (n5 ≤ 1000000) := by show n5 ≤ _; omega
  go_wp2_with fail
  clear x0 x5
  go_loopw [13] (fun jv wx => ∃ j : Nat, j ≤ nw ∧ jv = .int .i64 (j : Int) ∧ Hid (HZ w wx (.slice B5 n5 d5) (.slice A6 nw c6) (S.ins ++ [⟨27, 0, 0, 0, 0⟩]) S.want (fun b => w5.heap.size ≤ b) Ae ce c0 #[.slice Ae nw ce, .int .i64 fi, .int .i64 ki, .int .i64 va, .int .i64 st, .int .i64 (S.next - 1), .int .i64 dp])) (fun jv _ => nw - (intOf jv).toNat)
  case atStart => exact ⟨0, by omega, rfl, Z8⟩
  case round =>
    clear Z8
    obtain ⟨j, hj, rfl, Z⟩ := hrel
    have x0 := Z.out.blk.cell 0
    have x1 := Z.out.blk.cell 1
    have x2 := Z.out.blk.cell 2
    have x4 := Z.out.blk.cell 4
    simp only [List.getElem?_toArray, List.getElem?_cons_zero, List.getElem?_cons_succ] at x0 x1 x2 x4
    by_cases hjl : j < nw
    · obtain ⟨eb, ecap, hA, -⟩ := Z.out.ev.form (by rw [HW.out]; omega)
      injection hA with hA hA1 hA2
      clear hA1
      subst hA hA2
      obtain ⟨wb, rfl, kw⟩ := Z.out.hp.want HW.out (j := j) (by rw [HW.out]; exact hjl)
      obtain ⟨a0, a1⟩ := evs_of S.want (j := j) (by rw [HW.out]; exact hjl)
      have k0 := Z.out.ev.cell a0
      have k1 := Z.out.ev.cell a1
      generalize S.want.getD j 0 = y at *
      have SQ := Lib.hid (fun q => Z.out.quiet ((Only.refl _ wr).drewN q))
      have hnn : (j : Int) + 1 ≤ 9223372036854775807 := by omega
      clear Z a0 a1 x1 x2 x4
      go_wp2_with fail
      go_quiet (fail)
      go_wp2_with fail
      go_roundw
      case rel => exact ⟨j + 1, by omega, by go_num, SQ.out _⟩
      case measure => first | (simp [intOf]; done) | (simp [intOf]; omega)
    · have ZL := Lib.hid Z.out.hp.low
      have hd : ¬ (j : Int) < (nw : Int) := by omega
      have hnw := HNW.out
      rcases HC.out with ⟨e1, rfl, rfl, rfl⟩ | ⟨e1, rfl, rfl⟩
      all_goals
        clear HC Z
        rw [e1]
        go_wp2_with fail
        go_ret
        exact ⟨rfl, ZL.out⟩
theorem r16heap_c (w : World) (A : Option Addr) (len cap : Nat) (xs : List Int) (hx : xs.length = len) (hN : NL w (fun b => b < w.heap.size) A xs) (hxw : ∀ x ∈ xs, i64in x) (h0 : Int) :
    Calls Try.prog 8 #[.slice A len cap, .int .i64 h0] w fun e w' => e = .returned (.bool true) ∧ Below w.heap.size w w' := by
  by_cases hl : 300 < (len : Int)
  · exact heap_big w A len cap h0 hl
  · obtain ⟨o0, o1⟩ := and_rng h0 1048575 (by decide)
    exact heap_c w A len cap xs hx hN hxw h0 _ rfl o0 o1 (by omega) _ rfl
end Go.Proofs.Ytkjfbojmkkdgoaa
