/- apart: the walk. -/
import Derived.Test.YtdpeckfdilpidaaW19
set_option linter.unusedVariables false
set_option linter.unusedSimpArgs false
namespace Go.Proofs.Ytdpeckfdilpidaa
open Go.RowKit
attribute [local go_sem ↓] Go.wp_at_zero Go.wp_at_succ
/-- The marks, as far as they are laid. -/
structure P1 (w wr : World) (F : Nat → Prop) (v : Value) (N : Nat) (V : Nat → Value) (L : Nat → Nat) (i j : Nat) (Y : Nat → List Int) : Prop where
  ll : LL wr F 27 v N V Y
  len : ∀ k, k < N → (Y k).length = L k
  done : ∀ k, k < i → k < N → ∀ t, t < L k → (Y k).getD t 0 = val k (L k) t
  part : ∀ t, t < j → t < L i → (Y i).getD t 0 = val i (L i) t
  only : Only F w wr
section
variable {w wr : World} {F : Nat → Prop} {v : Value} {N i j : Nat} {V : Nat → Value} {L : Nat → Nat} {Y : Nat → List Int}
theorem getD_set (l : List Int) (j t : Nat) (x : Int) : (l.set j x).getD t 0 = if t = j ∧ j < l.length then x else l.getD t 0 := by
  rw [List.getD_eq_getElem?_getD, List.getElem?_set, List.getD_eq_getElem?_getD]
  by_cases h : j = t
  · subst h
    by_cases h2 : j < l.length
    · simp [h2]
    · simp [h2]
  · rw [if_neg h, if_neg (fun e => h e.1.symm)]
theorem P1.wrote {nb c : Nat} (h : P1 w wr F v N V L i j Y) (hi : i < N) (hj : j < L i) (hV : V i = .slice (some ⟨nb, 0, none⟩) (Y i).length c) :
    ∃ Y', P1 w (wr.setCell ⟨nb, j, none⟩ (.int .i64 (-1000 * (i : Int) - (j : Int) - 1))) F v N V L i (j + 1) Y' := by
  obtain ⟨h1, h2⟩ := h.ll.stored (by decide) hi hV j (-1000 * (i : Int) - (j : Int) - 1)
  have hYl := h.len i hi
  refine ⟨_, h1, fun k hk => ?_, fun k hk hkn t ht => ?_, fun t ht htl => ?_, h.only.setCell (p := ⟨nb, j, none⟩) (.inl h2) _⟩
  · by_cases he : k = i
    · subst he; rw [updf_same, List.length_set]; exact hYl
    · rw [updf_other _ _ _ he]; exact h.len k hk
  · rw [updf_other _ _ _ (by omega)]; exact h.done k hk hkn t ht
  · rw [updf_same, getD_set]
    by_cases he : t = j
    · subst he
      rw [if_pos ⟨rfl, by omega⟩]
      unfold val
      rw [if_pos hj]
    · rw [if_neg (fun e => he e.1)]
      exact h.part t (by omega) htl
theorem P1.next (h : P1 w wr F v N V L i j Y) (hj : L i ≤ j) : P1 w wr F v N V L (i + 1) 0 Y :=
  ⟨h.ll, h.len, fun k hk hkn t ht => by
    by_cases he : k = i
    · subst he; exact h.part t (by omega) ht
    · exact h.done k (by omega) hkn t ht, fun t ht => absurd ht (Nat.not_lt_zero _), h.only⟩
theorem P1.end_ (h : P1 w wr F v N V L N 0 Y) : LL wr F 27 v N V (fun k => vals k (L k) (L k)) :=
  h.ll.congr fun k hk => by
    apply getD_ext
    · rw [vals_length]; exact h.len k hk
    · intro t ht
      rw [h.len k hk] at ht
      rw [h.done k hk hk t ht, vals_get _ _ _ ht]
end
def ApartPost (w : World) (F : Nat → Prop) (e : Ending) (w' : World) : Prop := e = .returned (.bool true) ∧ Only F w w'
set_option maxRecDepth 100000 in
set_option maxHeartbeats 16000000 in
theorem apart_c (w : World) (F : Nat → Prop) (v : Value) (N : Nat) (V : Nat → Value) (X : Nat → List Int) (h : LL w F 27 v N V X) (hN : N ≤ 200) (hX : ∀ k, k < N → (X k).length ≤ 300) :
    Calls Try.prog 19 #[v] w (ApartPost w F) := by
  obtain ⟨L, hL⟩ : ∃ L : Nat → Nat, ∀ k, L k = (X k).length := ⟨fun k => (X k).length, fun _ => rfl⟩
  have hL3 : ∀ k, k < N → L k ≤ 300 := fun k hk => by rw [hL]; exact hX k hk
  have HL3 := Lib.hid hL3
  have SH : Hid (∀ k, k < N → ∃ A c, V k = .slice A (L k) c ∧ (0 < L k → ∃ b, A = some ⟨b, 0, none⟩)) := fun k hk => by
    have r := h.rows k hk
    rw [← hL k] at r
    obtain ⟨A, c, e, _⟩ := r.shape
    refine ⟨A, c, e, fun hp => ?_⟩
    obtain ⟨g, c', e2, _⟩ := r.form hp
    rw [e] at e2
    injection e2 with e2 _ _
    exact ⟨g, e2⟩
  obtain ⟨vA, vc, hv, hvc⟩ := h.row.shape
  subst hv
  have S0 : Hid (∃ Y, P1 w w F (.slice vA N vc) N V L 0 0 Y) := ⟨X, h, fun k _ => (hL k).symm, fun k hk => absurd hk (Nat.not_lt_zero _), fun t ht => absurd ht (Nat.not_lt_zero _), Only.refl _ _⟩
  clear hL hL3 hX h
  obtain ⟨i0, hI, hz0, hz1, hz2⟩ := info_parts info3
  have HI := Lib.hid hI
  have HZ0 := Lib.hid hz0
  have HZ1 := Lib.hid hz1
  have HZ2 := Lib.hid hz2
  obtain ⟨i1, kI, kz0, kz1, kz2⟩ := info_parts info27
  have KI := Lib.hid kI
  have KZ0 := Lib.hid kz0
  have KZ1 := Lib.hid kz1
  have KZ2 := Lib.hid kz2
  clear hI hz0 hz1 hz2 kI kz0 kz1 kz2
  go_enter Try.func19, Try.ntmps19
  go_wp2_with fail
  go_loopw [3] (fun iv wr => ∃ i : Nat, i ≤ N ∧ iv = .int .i64 (i : Int) ∧ Hid (∃ Y, P1 w wr F (.slice vA N vc) N V L i 0 Y)) (fun iv _ => N - (intOf iv).toNat)
  case atStart => exact ⟨0, by omega, rfl, S0⟩
  case round =>
    clear S0
    obtain ⟨i, hi, rfl, HR⟩ := hrel
    by_cases hlt : i < N
    · go_wp2_with fail
      go_loopw [4] (fun jv wr => ∃ j : Nat, j ≤ L i ∧ jv = .int .i64 (j : Int) ∧ Hid (∃ Y, P1 w wr F (.slice vA N vc) N V L i j Y)) (fun jv _ => L i - (intOf jv).toNat)
      case atStart => exact ⟨0, by omega, rfl, HR⟩
      case round =>
        clear HR
        obtain ⟨j, hj, rfl, HR⟩ := hrel
        obtain ⟨Y, hP⟩ := HR.out
        have P := Lib.hid hP
        obtain ⟨vb, vc', ev, _, _, _⟩ := hP.ll.row.form (by omega)
        injection ev with ev1 _ ev2
        subst ev1 ev2
        have ch := hP.ll.head_cell hlt
        obtain ⟨A, c, eV, hA⟩ := SH.out i hlt
        have hYl := hP.len i hlt
        have hl3 := HL3.out i hlt
        rw [eV] at ch
        have EV := Lib.hid eV
        clear HR hP eV
        by_cases hjl : j < L i
        · obtain ⟨nb, rfl⟩ := hA (by omega)
          have hV' : V i = .slice (some ⟨nb, 0, none⟩) (Y i).length c := by rw [hYl]; exact EV.out
          have cx := P.out.ll.num_cell hlt hV' (i := j) (by omega)
          have hfr := P.out.ll.rows i hlt
          rw [hV'] at hfr
          have fx := hfr.frozen j
          have NX := Lib.hid (P.out.wrote hlt hjl hV')
          clear P hV' hfr hA hYl
          generalize (Y i).getD j 0 = y at *
          generalize L i = Li at *
          go_wp2_with fail
          go_roundw
          case rel => exact ⟨j + 1, by omega, by go_num, NX.out⟩
          case measure => first | (simp [intOf]; done) | (simp [intOf]; omega)
        · have NX := Lib.hid (P.out.next (by omega))
          clear P hA hYl
          generalize L i = Li at *
          go_wp2_with fail
          go_roundw
          case rel => exact ⟨i + 1, by omega, by go_num, _, NX.out⟩
          case measure => first | (simp [intOf]; done) | (simp [intOf]; omega)
    · obtain rfl : i = N := by omega
      obtain ⟨Y, hP⟩ := HR.out
      have AO0 := Lib.hid (AO.start hP.end_ hP.only)
      clear HR hP
      generalize wr.heap.size = s1 at *
      have AO1 : Hid (∃ M GV I K B, M ≤ 90 * 0 ∧ AO w wr F (.slice vA i vc) i V L s1 (.slice none 0 0) M GV I K B (.slice none 0 0) 0) := ⟨_, _, _, _, _, Nat.le_refl _, AO0.out⟩
      clear AO0
      generalize hNN : i = N at *
      clear hNN
      go_wp2_with fail
      go_loopw [5, 6, 7] (fun gv hv iv wr => ∃ i : Nat, i ≤ N ∧ iv = .int .i64 (i : Int) ∧ Hid (∃ M GV I K B, M ≤ 90 * i ∧ AO w wr F (.slice vA N vc) N V L s1 gv M GV I K B hv i)) (fun _ _ iv _ => N - (intOf iv).toNat)
      case atStart => exact ⟨0, by omega, rfl, AO1⟩
      case round =>
        clear AO1
        obtain ⟨i, hi, rfl, HR⟩ := hrel
        by_cases hlt : i < N
        · obtain ⟨M, GV, I, K, B, hM, hA⟩ := HR.out
          obtain ⟨vb, vc', ev, _, _, _⟩ := hA.heads.form (by omega)
          injection ev with ev1 _ ev2
          subst ev1 ev2
          have ch := hA.heads.cell (i := i) (heads_get N V hlt)
          obtain ⟨A, c, eV, _⟩ := SH.out i hlt
          have PB : Hid (∃ M GV I K B, M ≤ 90 * i + 0 ∧ AP w wr F (.slice (some ⟨vb, 0, none⟩) N vc) N V L s1 u5 M GV I K B u6 (.slice A (L i) c) (L i + 0) i) := ⟨M, GV, I, K, B, by omega, by rw [← eV]; exact hA.begin hlt⟩
          have hl3 := HL3.out i hlt
          rw [eV] at ch
          clear HR hA hM eV
          go_wp2_with fail
          go_loopw [5, 6, 8, 9] (fun gv hv g kv wr => ∃ k : Nat, k ≤ 90 ∧ kv = .int .i64 ((k : Int) + 1) ∧ Hid (∃ M GV I K B, M ≤ 90 * i + k ∧ AP w wr F (.slice (some ⟨vb, 0, none⟩) N vc) N V L s1 gv M GV I K B hv g (L i + k) i)) (fun _ _ _ kv _ => 91 - (intOf kv).toNat)
          case atStart => exact ⟨0, by omega, by go_num, PB⟩
          case round =>
            clear PB ch
            obtain ⟨k, hk, rfl, HR⟩ := hrel
            obtain ⟨M, GV, I, K, B, hM, hP⟩ := HR.out
            by_cases hk90 : k < 90
            · obtain ⟨ng, hng⟩ : ∃ ng, ng = L i + k := ⟨_, rfl⟩
              rw [← hng] at hP
              have NG := Lib.hid hng
              have P := Lib.hid hP
              have YS : Hid (nums (vals i (L i) ng) ++ [.int .i64 (1000000 + (i : Int))] = nums (vals i (L i) (ng + 1))) := by
                show _ = _
                rw [vals_succ, ← nums_append]
                congr 1
                unfold val
                rw [if_neg (by omega)]; rfl
              obtain ⟨Ag, cg, rfl, hcg⟩ := Row.shape (F := fun _ => True) ⟨hP.gown, fun _ _ => trivial⟩
              obtain ⟨Av, cv, rfl, hcv⟩ := hP.grown.shape
              obtain ⟨Ah, ch, rfl, hch⟩ := hP.whose.shape
              have hng2 : ng ≤ 400 := by omega
              have hM2 : M ≤ 20000 := by omega
              clear HR hP hng
              rcases (show (k : Int) + 1 ≤ 16 ∨ ((16 : Int) < (k : Int) + 1 ∧ (k : Int) + 1 = 90) ∨ ((16 : Int) < (k : Int) + 1 ∧ (k : Int) + 1 ≠ 90) by omega) with h1 | ⟨h1, h2⟩ | ⟨h1, h2⟩
              · have d1 : decide ((k : Int) + 1 ≤ 16) = true := decide_eq_true h1
                go_wp2_with (first
                  | (have A4 := W3; at_builtin; go_must (refine wpList_append_keeps rfl (.tmp 69) (.tmp 71) 27 rfl 3 i0 _ 1 8 Try.underlying27 HI.out HZ0.out HZ1.out HZ2.out rfl (by omega) (.slice Ah M ch) M (nums (ofNats ((List.range M).map I))) rfl (W3.out.alloc _) ⟨w3.heap.size, 0, none⟩ 1 1 [.int .i64 (i : Int)] rfl rfl (World.news_of_block (cs := #[.int .i64 (i : Int)]) (t := 3) (fr := (0, 0)) (heap_alloc_new _ _)) (by simp [Value.oneCell']) (by omega) (by unfold maxLen; omega) (by omega) (M + 1) rfl _ rfl (w3.heap.size + 1) (by simp) ?_); go_must (intro g4 c4 w4 hown4 hgr4 hat4 _; have P4 := Lib.hid (P2.out.stage Q3.out G3.out (T3.out.imp (fun e => e.symm) (fun e => ⟨g3, rfl, by omega⟩)) hown4 hgr4 (hat4.imp (fun e => e.symm) (fun e => ⟨g4, rfl, by omega⟩)) (by have := NG.out; omega)); clear hown4 hgr4 hat4; simp (config := { maxSteps := 3000000 }) only [Act.put, List.setIfInBounds_toArray, List.set_cons_succ, List.set_cons_zero]))
                  | (have A3 := P2; at_builtin; go_must (refine wpList_append_keeps rfl (.tmp 65) (.tmp 67) 22 rfl 27 i1 _ 1 24 Try.underlying22 KI.out KZ0.out KZ1.out KZ2.out rfl (by omega) (.slice Av M cv) M (heads M GV) rfl (P2.out.grown.1.alloc _) ⟨w2.heap.size, 0, none⟩ 1 1 [.slice (some ⟨g2, 0, none⟩) (ng + 1) c2] rfl rfl (World.news_of_block (cs := #[.slice (some ⟨g2, 0, none⟩) (ng + 1) c2]) (t := 27) (fr := (0, 0)) (heap_alloc_new _ _)) (by simp [Value.oneCell']) (by omega) (by unfold maxLen; omega) (by omega) (M + 1) rfl _ rfl (w2.heap.size + 1) (by simp) ?_); go_must (intro g3 c3 w3 hown3 hgr3 hat3 _; have Q3 := Lib.hid hown3; have G3 := Lib.hid hgr3; have T3 := Lib.hid hat3; have W3 := Lib.hid (ownsRow_only P2.out.whose.1 (((Only.refl (fun b => (Value.slice Av M cv).ownBlock = some b) w2).alloc (.cells #[.slice (some ⟨g2, 0, none⟩) (ng + 1) c2] 27)).grown hgr3 fun k hk => .inl hk) fun b hb e => own_ne P2.out.grown.1 P2.out.whose.1 (by decide) e hb); clear hown3 hgr3 hat3; simp (config := { maxSteps := 3000000 }) only [Act.put, List.setIfInBounds_toArray, List.set_cons_succ, List.set_cons_zero]))
                  | (at_builtin; go_must (refine wpList_append_keeps rfl (.tmp 54) (.tmp 57) 27 rfl 3 i0 _ 1 8 Try.underlying27 HI.out HZ0.out HZ1.out HZ2.out rfl (by omega) (.slice Ag ng cg) ng (nums (vals i (L i) ng)) rfl (P.out.gown.alloc _) ⟨wr.heap.size, 0, none⟩ 1 1 [.int .i64 (1000000 + (i : Int))] rfl rfl (World.news_of_block (cs := #[.int .i64 (1000000 + (i : Int))]) (t := 3) (fr := (0, 0)) (heap_alloc_new _ _)) (by simp [Value.oneCell']) (by omega) (by unfold maxLen; omega) (by omega) (ng + 1) rfl (nums (vals i (L i) (ng + 1))) YS.out (wr.heap.size + 1) (by simp) ?_); go_must (intro g2 c2 w2 hown hgrow hat hk2; have P2 := Lib.hid (P.out.app hown hgrow hat hk2); clear hown hgrow hat hk2; simp (config := { maxSteps := 3000000 }) only [Act.put, List.setIfInBounds_toArray, List.set_cons_succ, List.set_cons_zero])))
                go_roundw
                case rel => exact ⟨k + 1, by omega, by go_num, M + 1, _, _, _, _, by omega, by rw [show L i + (k + 1) = ng + 1 by have := NG.out; omega]; exact P4.out⟩
                case measure => first | (simp [intOf]; done) | (simp [intOf]; omega)
              · have d1 : decide ((k : Int) + 1 ≤ 16) = false := decide_eq_false (by omega)
                have d2 : ((k : Int) + 1 == 90) = true := beq_iff_eq.2 h2
                go_wp2_with (first
                  | (have A4 := W3; at_builtin; go_must (refine wpList_append_keeps rfl (.tmp 69) (.tmp 71) 27 rfl 3 i0 _ 1 8 Try.underlying27 HI.out HZ0.out HZ1.out HZ2.out rfl (by omega) (.slice Ah M ch) M (nums (ofNats ((List.range M).map I))) rfl (W3.out.alloc _) ⟨w3.heap.size, 0, none⟩ 1 1 [.int .i64 (i : Int)] rfl rfl (World.news_of_block (cs := #[.int .i64 (i : Int)]) (t := 3) (fr := (0, 0)) (heap_alloc_new _ _)) (by simp [Value.oneCell']) (by omega) (by unfold maxLen; omega) (by omega) (M + 1) rfl _ rfl (w3.heap.size + 1) (by simp) ?_); go_must (intro g4 c4 w4 hown4 hgr4 hat4 _; have P4 := Lib.hid (P2.out.stage Q3.out G3.out (T3.out.imp (fun e => e.symm) (fun e => ⟨g3, rfl, by omega⟩)) hown4 hgr4 (hat4.imp (fun e => e.symm) (fun e => ⟨g4, rfl, by omega⟩)) (by have := NG.out; omega)); clear hown4 hgr4 hat4; simp (config := { maxSteps := 3000000 }) only [Act.put, List.setIfInBounds_toArray, List.set_cons_succ, List.set_cons_zero]))
                  | (have A3 := P2; at_builtin; go_must (refine wpList_append_keeps rfl (.tmp 65) (.tmp 67) 22 rfl 27 i1 _ 1 24 Try.underlying22 KI.out KZ0.out KZ1.out KZ2.out rfl (by omega) (.slice Av M cv) M (heads M GV) rfl (P2.out.grown.1.alloc _) ⟨w2.heap.size, 0, none⟩ 1 1 [.slice (some ⟨g2, 0, none⟩) (ng + 1) c2] rfl rfl (World.news_of_block (cs := #[.slice (some ⟨g2, 0, none⟩) (ng + 1) c2]) (t := 27) (fr := (0, 0)) (heap_alloc_new _ _)) (by simp [Value.oneCell']) (by omega) (by unfold maxLen; omega) (by omega) (M + 1) rfl _ rfl (w2.heap.size + 1) (by simp) ?_); go_must (intro g3 c3 w3 hown3 hgr3 hat3 _; have Q3 := Lib.hid hown3; have G3 := Lib.hid hgr3; have T3 := Lib.hid hat3; have W3 := Lib.hid (ownsRow_only P2.out.whose.1 (((Only.refl (fun b => (Value.slice Av M cv).ownBlock = some b) w2).alloc (.cells #[.slice (some ⟨g2, 0, none⟩) (ng + 1) c2] 27)).grown hgr3 fun k hk => .inl hk) fun b hb e => own_ne P2.out.grown.1 P2.out.whose.1 (by decide) e hb); clear hown3 hgr3 hat3; simp (config := { maxSteps := 3000000 }) only [Act.put, List.setIfInBounds_toArray, List.set_cons_succ, List.set_cons_zero]))
                  | (at_builtin; go_must (refine wpList_append_keeps rfl (.tmp 54) (.tmp 57) 27 rfl 3 i0 _ 1 8 Try.underlying27 HI.out HZ0.out HZ1.out HZ2.out rfl (by omega) (.slice Ag ng cg) ng (nums (vals i (L i) ng)) rfl (P.out.gown.alloc _) ⟨wr.heap.size, 0, none⟩ 1 1 [.int .i64 (1000000 + (i : Int))] rfl rfl (World.news_of_block (cs := #[.int .i64 (1000000 + (i : Int))]) (t := 3) (fr := (0, 0)) (heap_alloc_new _ _)) (by simp [Value.oneCell']) (by omega) (by unfold maxLen; omega) (by omega) (ng + 1) rfl (nums (vals i (L i) (ng + 1))) YS.out (wr.heap.size + 1) (by simp) ?_); go_must (intro g2 c2 w2 hown hgrow hat hk2; have P2 := Lib.hid (P.out.app hown hgrow hat hk2); clear hown hgrow hat hk2; simp (config := { maxSteps := 3000000 }) only [Act.put, List.setIfInBounds_toArray, List.set_cons_succ, List.set_cons_zero])))
                go_roundw
                case rel => exact ⟨k + 1, by omega, by go_num, M + 1, _, _, _, _, by omega, by rw [show L i + (k + 1) = ng + 1 by have := NG.out; omega]; exact P4.out⟩
                case measure => first | (simp [intOf]; done) | (simp [intOf]; omega)
              · have d1 : decide ((k : Int) + 1 ≤ 16) = false := decide_eq_false (by omega)
                have d2 : ((k : Int) + 1 == 90) = false := beq_eq_false_iff_ne.2 h2
                go_wp2_with (at_builtin; go_must (refine wpList_append_keeps rfl (.tmp 54) (.tmp 57) 27 rfl 3 i0 _ 1 8 Try.underlying27 HI.out HZ0.out HZ1.out HZ2.out rfl (by omega) (.slice Ag ng cg) ng (nums (vals i (L i) ng)) rfl (P.out.gown.alloc _) ⟨wr.heap.size, 0, none⟩ 1 1 [.int .i64 (1000000 + (i : Int))] rfl rfl (World.news_of_block (cs := #[.int .i64 (1000000 + (i : Int))]) (t := 3) (fr := (0, 0)) (heap_alloc_new _ _)) (by simp [Value.oneCell']) (by omega) (by unfold maxLen; omega) (by omega) (ng + 1) rfl (nums (vals i (L i) (ng + 1))) YS.out (wr.heap.size + 1) (by simp) ?_); go_must (intro g2 c2 w2 hown hgrow hat hk2; have P2 := Lib.hid (P.out.app hown hgrow hat hk2); clear hown hgrow hat hk2; simp (config := { maxSteps := 3000000 }) only [Act.put, List.setIfInBounds_toArray, List.set_cons_succ, List.set_cons_zero]))
                go_roundw
                case rel => exact ⟨k + 1, by omega, by go_num, M, _, _, _, _, by omega, by rw [show L i + (k + 1) = ng + 1 by have := NG.out; omega]; exact P2.out⟩
                case measure => first | (simp [intOf]; done) | (simp [intOf]; omega)
            · obtain rfl : k = 90 := by omega
              have E := Lib.hid hP.done
              clear HR hP
              go_wp2_with fail
              go_roundw
              case rel => exact ⟨i + 1, by omega, by go_num, _, _, _, _, _, by omega, E.out⟩
              case measure => first | (simp [intOf]; done) | (simp [intOf]; omega)
        · obtain rfl : i = N := by omega
          obtain ⟨M, GV, I, K, B, hM, hA⟩ := HR.out
          obtain ⟨Av, cv, rfl, hcv⟩ := hA.grown.shape
          obtain ⟨Ah, ch, rfl, hch⟩ := hA.whose.shape
          have A1 := Lib.hid hA
          have hM2 : M ≤ 20000 := by omega
          have ONLY := Lib.hid hA.only
          clear HR hA hM hlt
          go_wp2_with fail
          go_loop [10] (fun nv => ∃ n : Nat, n ≤ M ∧ nv = .int .i64 (n : Int)) (fun nv => M - (intOf nv).toNat)
          case atStart => exact ⟨0, by omega, rfl⟩
          case round =>
            obtain ⟨n, hn, rfl⟩ := hrel
            by_cases hnM : n < M
            · have S := A1.out.st n hnM
              obtain ⟨cG, hG⟩ := S.form
              obtain ⟨gb, cv', ev, _, _, _⟩ := A1.out.grown.form (by omega)
              injection ev with ev1 _ ev2
              subst ev1 ev2
              obtain ⟨hb, ch', ev, _, _, _⟩ := A1.out.whose.form (by omega)
              injection ev with ev1 _ ev2
              subst ev1 ev2
              have cG0 := A1.out.grown.cell (i := n) (heads_get M GV hnM)
              rw [hG] at cG0
              have cH0 := A1.out.whose.cell (i := n) (u := .int .i64 ((I n : Nat) : Int)) (by
                rw [nums_get _ _ (by rw [ofNats_length]; simpa using hnM), ofNats_get _ (by simpa using hnM)]
                simp [List.getD_eq_getElem?_getD, hnM])
              have hIN := S.iN
              obtain ⟨vb, vc', ev, _, _, _⟩ := A1.out.heads.form (by omega)
              injection ev with ev1 _ ev2
              subst ev1 ev2
              have cV0 := A1.out.heads.cell (i := I n) (heads_get i V hIN)
              obtain ⟨Ai, ci, eV, hAi⟩ := SH.out (I n) hIN
              have KP := Lib.hid (A1.out.kept (I n) hIN)
              rw [eV] at cV0 KP
              have hl3 := HL3.out (I n) hIN
              have SC := Lib.hid S.cells
              have hkb := S.kb
              clear S A1 eV hG
              obtain ⟨y, hy⟩ : ∃ y, y = I n := ⟨_, rfl⟩
              rw [← hy] at cH0 cV0 KP hl3 SC hIN cG0 hAi
              obtain ⟨Ly, hLy⟩ : ∃ Ly, Ly = L y := ⟨_, rfl⟩
              rw [← hLy] at cV0 KP hl3 SC hAi cG0
              obtain ⟨T, hT⟩ : ∃ T, T = Ly + K n := ⟨_, rfl⟩
              rw [← hT] at SC cG0
              have hT2 : Ly ≤ T ∧ T ≤ 400 := by omega
              generalize B n = bn at *
              clear hT hy hLy hkb
              go_wp2_with fail
              go_loop [12] (fun jv => ∃ j : Nat, j ≤ T ∧ jv = .int .i64 (j : Int)) (fun jv => T - (intOf jv).toNat)
              case atStart => exact ⟨0, by omega, rfl⟩
              case round =>
                obtain ⟨j, hj, rfl⟩ := hrel
                by_cases hjT : j < T
                · have cB := SC.out j hjT
                  by_cases hjL : j < Ly
                  · obtain ⟨b, rfl⟩ := hAi (by omega)
                    have cK := (KP.out b rfl).2.2 j hjL
                    rw [show val y Ly j = -1000 * (y : Int) - (j : Int) - 1 by unfold val; rw [if_pos hjL]] at cB cK
                    have hne : ((-1000 * (y : Int) - (j : Int) - 1) != (-1000 * (y : Int) - (j : Int) - 1)) = false := bne_self_eq_false _
                    clear SC KP hAi
                    go_wp2_with fail
                    go_round
                    case rel => exact ⟨j + 1, by omega, by go_num⟩
                    case measure => first | (simp [intOf]; done) | (simp [intOf]; omega)
                  · rw [show val y Ly j = 1000000 + (y : Int) by unfold val; rw [if_neg hjL]] at cB
                    have hne : ((1000000 + (y : Int)) != (1000000 + (y : Int))) = false := bne_self_eq_false _
                    clear SC KP hAi
                    go_wp2_with fail
                    go_round
                    case rel => exact ⟨j + 1, by omega, by go_num⟩
                    case measure => first | (simp [intOf]; done) | (simp [intOf]; omega)
                · clear SC KP hAi
                  go_wp2_with fail
                  go_round
                  case rel => exact ⟨n + 1, by omega, by go_num⟩
                  case measure => first | (simp [intOf]; done) | (simp [intOf]; omega)
            · clear A1
              go_wp2_with fail
              go_ret
              exact ⟨rfl, ONLY.out⟩
end Go.Proofs.Ytdpeckfdilpidaa
