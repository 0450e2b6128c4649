/- r16's machine: the stack's words. -/
import Derived.Test.YtkjfbojmkkdgoaaX7
import Derived.Test.YtkjfbojmkkdgoaaP2
import Derived.Deep.LoopGhost
set_option linter.unusedVariables false
set_option linter.unusedSimpArgs false
namespace Go.Proofs.Ytkjfbojmkkdgoaa
open Go.RowKit
attribute [local go_sem ↓] Go.wp_at_zero Go.wp_at_succ
set_option maxRecDepth 100000 in
set_option maxHeartbeats 4000000 in
theorem wget_c (w : World) (C : Nat → Prop) (z : Nat → Nat) (g : Nat) (p : MP) (K : MK) (q : MQ) (c : Nat) (h : MZ w C z g p K q c) (i : Nat) (hi : (i : Int) ≤ 9223372036854775807) :
    Calls Try.prog 102 #[.pointer (some ⟨g, 61, none⟩), .int .i64 i] w fun e w' => e = .returned (.int .i64 (q.st i)) ∧ w' = w := by
  obtain ⟨xs, f, h1, h2, h3, h4, h5, h6⟩ := h.sa
  have k61 := h.k61
  have k62 := h.k62
  have hst := h6 i
  have hl := h2.look Try.underlying83 Try.underlying3 (zero3 w) (k := (i : Int)) ⟨by omega, hi⟩
  obtain ⟨A, cap, hrow, hcap⟩ := h1.shape
  rw [hrow] at k61 h1
  by_cases hc : i < xs.length
  · rw [if_pos hc] at hst
    rw [hst]
    obtain ⟨b, cap', hv, _, _, _⟩ := h1.form (by omega)
    injection hv with hA hcap1 hcap2
    subst hA
    have cx := h1.cell (nums_get xs i hc)
    generalize xs.getD i 0 = y at *
    generalize xs.length = n at *
    clear hst h1 h2 h3 h4 h5 h6 hl h hrow
    go_enter Try.func102, Try.ntmps102
    go_wp2
    go_ret
    exact ⟨rfl, rfl⟩
  · rw [if_neg hc] at hst
    rw [hst]
    generalize (f (i : Int)).getD 0 = y at *
    generalize xs.length = n at *
    clear hst h1 h2 h3 h4 h5 h6 h hrow
    go_enter Try.func102, Try.ntmps102
    go_wp2
    go_ret
    exact ⟨rfl, rfl⟩
/-- What a store of a word leaves. -/
theorem SAt.far_put {w' : World} {G G2 : Nat → Prop} {row : Value} {far c : Nat} {st : Int → Int} {xs : List Int} {f : Int → Option Int} {i v : Int} (h1 : Row w' G 3 1 row xs.length (nums xs)) (h2 : IMap Try.prog 3 w' far (c + 1) (upd f i v)) (h3 : G2 far) (h4 : xs.length ≤ 65536) (h5 : ∀ i : Int, i < 65536 → f i = none)
    (h6 : ∀ i : Nat, st (i : Int) = if i < xs.length then xs.getD i 0 else (f (i : Int)).getD 0) (hi : 65536 ≤ i) : SAt w' G G2 row far (c + 1) (sset st i v) := by
  refine ⟨xs, upd f i v, h1, h2, h3, h4, fun j hj => ?_, fun j => ?_⟩
  · unfold upd; rw [if_neg (by omega)]; exact h5 j hj
  · unfold sset upd
    by_cases he : (j : Int) = i
    · rw [if_pos he, if_neg (by omega), if_pos he]; rfl
    · rw [if_neg he, if_neg he]; exact h6 j
theorem SAt.near_put {w' : World} {G G2 : Nat → Prop} {row : Value} {far c : Nat} {st : Int → Int} {xs : List Int} {f : Int → Option Int} {i : Nat} {v : Int} (h1 : Row w' G 3 1 row (xs.set i v).length (nums (xs.set i v))) (h2 : IMap Try.prog 3 w' far c f) (h3 : G2 far) (h4 : xs.length ≤ 65536) (h5 : ∀ i : Int, i < 65536 → f i = none)
    (h6 : ∀ i : Nat, st (i : Int) = if i < xs.length then xs.getD i 0 else (f (i : Int)).getD 0) (hi : i < xs.length) : SAt w' G G2 row far c (sset st i v) := by
  refine ⟨xs.set i v, f, h1, h2, h3, by simpa using h4, h5, fun j => ?_⟩
  unfold sset
  rw [List.length_set]
  by_cases he : j = i
  · subst he
    rw [if_pos rfl, if_pos hi]
    simp [List.getD_eq_getElem?_getD, List.getElem?_set, hi]
  · rw [if_neg (by omega), h6 j]
    by_cases hj : j < xs.length
    · rw [if_pos hj, if_pos hj]
      simp [List.getD_eq_getElem?_getD, List.getElem?_set, show ¬ i = j by omega]
    · rw [if_neg hj, if_neg hj]
theorem grow_law {st : Int → Int} {xs : List Int} {f : Int → Option Int} (h4 : xs.length < 65536) (h5 : ∀ i : Int, i < 65536 → f i = none)
    (h6 : ∀ i : Nat, st (i : Int) = if i < xs.length then xs.getD i 0 else (f (i : Int)).getD 0) (j : Nat) : st (j : Int) = if j < (xs ++ [0]).length then (xs ++ [0]).getD j 0 else (f (j : Int)).getD 0 := by
  rw [h6 j, List.length_append]
  by_cases h : j < xs.length
  · rw [if_pos h, if_pos (by simp; omega)]
    simp [List.getD_eq_getElem?_getD, List.getElem?_append_left h]
  · by_cases hj : j = xs.length
    · subst hj
      rw [if_neg h, if_pos (by simp), h5 _ (by omega)]
      simp [List.getD_eq_getElem?_getD]
    · rw [if_neg h, if_neg (by simp; omega)]
theorem SAt.grow {w' : World} {G G2 : Nat → Prop} {row : Value} {far c : Nat} {st : Int → Int} {xs : List Int} {f : Int → Option Int} (h1 : Row w' G 3 1 row (xs ++ [0]).length (nums (xs ++ [0]))) (h2 : IMap Try.prog 3 w' far c f) (h3 : G2 far) (h4 : xs.length < 65536) (h5 : ∀ i : Int, i < 65536 → f i = none)
    (h6 : ∀ i : Nat, st (i : Int) = if i < xs.length then xs.getD i 0 else (f (i : Int)).getD 0) : SAt w' G G2 row far c st :=
  ⟨xs ++ [0], f, h1, h2, h3, by simp; omega, h5, grow_law h4 h5 h6⟩
set_option maxRecDepth 100000 in
set_option maxHeartbeats 8000000 in
theorem wset_far (w : World) (C : Nat → Prop) (g : Nat) (K : MK) (q : MQ) (c : Nat) (h : MAt w C g K q c) (i v : Int) (hi : 65536 ≤ i) (hi2 : i ≤ 9223372036854775807) (hv : i64in v) (hc : c < 9000000000000) :
    Calls Try.prog 76 #[.pointer (some ⟨g, 61, none⟩), .int .i64 i, .int .i64 v] w (Did w C g K { q with st := sset q.st i v } (c + 1)) := by
  obtain ⟨z, p, h⟩ := h
  obtain ⟨xs, f, h1, h2, h3, h4, h5, h6⟩ := h.sa
  have k62 := h.k62
  have H := Lib.hid h
  have H1 := Lib.hid h1
  have H2 := Lib.hid h2
  have H6 := Lib.hid h6
  have H5 := Lib.hid h5
  obtain ⟨v1, v2⟩ := hv
  clear h h1 h2 h5 h6
  go_enter Try.func76, Try.ntmps76
  go_wp2_with (at_mapUpdate; go_must (refine wpList_put rfl (.tmp 11) (.tmp 12) (.tmp 13) 83 rfl Try.underlying83 Try.underlying3 H2.out rfl (by unfold maxLen; omega) _ _ rfl rfl ⟨by omega, by omega⟩ ⟨by omega, by omega⟩ ?_); go_must (intro w1 m1 g1; have M1 := Lib.hid m1; have G1 := Lib.hid g1; clear m1 g1))
  go_end0
  have o : Only (fun b => z b = 2 ∨ z b = 3) w w1 := (Only.refl _ w).grown G1.out fun k hk => .inl (.inr (by injection hk with hk; rw [← hk]; exact h3))
  have r1 : Row w1 (fun b => z b = 2) 3 1 p.row xs.length (nums xs) := H1.out.grown G1.out (.inr (H1.out.ne_map H2.out))
  exact ⟨rfl, ⟨z, p, H.out.sSt o (by omega) _ (SAt.far_put r1 M1.out h3 h4 H5.out H6.out hi)⟩, o.mono fun b hb hz => H.out.foot b (by omega)⟩
set_option maxRecDepth 100000 in
set_option maxHeartbeats 8000000 in
theorem wset_near (w : World) (C : Nat → Prop) (g : Nat) (K : MK) (q : MQ) (c : Nat) (h : MAt w C g K q c) (hC : ∀ b, w.heap.size ≤ b → C b) (i v : Int) (hi0 : 0 ≤ i) (hil : i < 65536) :
    Calls Try.prog 76 #[.pointer (some ⟨g, 61, none⟩), .int .i64 i, .int .i64 v] w (Did w C g K { q with st := sset q.st i v } c) := by
  obtain ⟨z0, p0, h⟩ := h
  obtain ⟨xs0, f0, s1, s2, s3, s4, s5, s6⟩ := h.sa
  have HM := Lib.hid h
  have S := Lib.hid (show Row w (fun b => z0 b = 2) 3 1 p0.row xs0.length (nums xs0) ∧ IMap Try.prog 3 w p0.far c f0 ∧ z0 p0.far = 3 ∧ xs0.length ≤ 65536 ∧ (∀ i : Int, i < 65536 → f0 i = none) ∧ ∀ i : Nat, q.st (i : Int) = if i < xs0.length then xs0.getD i 0 else (f0 (i : Int)).getD 0 from ⟨s1, s2, s3, s4, s5, s6⟩)
  clear h s1 s2 s3 s4 s5 s6
  go_enter Try.func76, Try.ntmps76
  go_wp2_with fail
  go_loopg [] (i.toNat + 1 - xs0.length) (fun gk wr => ∃ (z : Nat → Nat) (p : MP) (xs : List Int) (f : Int → Option Int), gk = i.toNat + 1 - xs.length ∧ Hid (MZ wr C z g p K q c) ∧ Hid (Row wr (fun b => z b = 2) 3 1 p.row xs.length (nums xs) ∧ IMap Try.prog 3 wr p.far c f ∧ z p.far = 3 ∧ xs.length ≤ 65536 ∧ (∀ i : Int, i < 65536 → f i = none) ∧ ∀ i : Nat, q.st (i : Int) = if i < xs.length then xs.getD i 0 else (f (i : Int)).getD 0) ∧ Hid (Only C w wr))
  case atStart => exact ⟨z0, p0, xs0, f0, rfl, HM, S, Only.refl _ _⟩
  case round =>
    obtain ⟨z, p, xs, f, hgk, H, S, O⟩ := hrel
    have k61 := H.out.k61
    have f61 := H.out.frozen 61
    obtain ⟨A, cap, hrow, hcap⟩ := S.out.1.shape
    rw [hrow] at k61
    have RR := Lib.hid (show Row wr (fun b => z b = 2) 3 1 (.slice A xs.length cap) xs.length (nums xs) from hrow ▸ S.out.1)
    have HL := Lib.hid (show xs.length < 4398046511104 by have := S.out.2.2.2.1; omega)
    have hlt : g < wr.heap.size := H.out.lt
    have hg2 : ¬ z g = 2 := by rw [H.out.zg]; decide
    have HRW := Lib.hid hrow
    clear hrow
    by_cases hc : (xs.length : Int) ≤ i
    · go_wp2_with (at_builtin; go_must (refine wpList_num rfl (.tmp 25) (.tmp 26) rfl (z := z) (j := 2) (.slice A xs.length cap) xs rfl (RR.out.alloc _) HL.out wr.heap.size 1 0 rfl (Blk.new _ _ _) ?_); go_must (intro g1 cap1 w1 r1 o1; have R1 := Lib.hid r1; have O1 := Lib.hid o1; have e61 : w1.cell? ⟨g, 61, none⟩ = some (.slice A xs.length cap) := ((o1.cell (b := g) (o := 61) (by simp; omega) hg2).trans (World.cell?_alloc_past _ _ _ hlt)).trans k61; have z61 : w1.frozen? ⟨g, 61, none⟩ = false := (o1.frz (b := g) (k := 61) (by simp; omega) hg2).trans ((frozen?_alloc_cells _ _ _ _).trans f61); clear r1 o1))
      go_roundg (gk - 1)
      case rel =>
        have M2 := H.out.box (.cells #[.int .i64 0] 3)
        have hC2 : ∀ b, (wr.alloc (.cells #[.int .i64 0] 3)).heap.size ≤ b → C b := fun b hb => hC b (by have := O.out.size; simp at hb; omega)
        have hl1 : (xs ++ [0]).length = xs.length + 1 := by simp
        have RX : Row w1 (fun b => nz z (wr.alloc (.cells #[.int .i64 0] 3)).heap.size 2 b = 2) 3 1 (.slice (some ⟨g1, 0, none⟩) (xs.length + 1) cap1) (xs ++ [0]).length (nums (xs ++ [0])) := by rw [hl1]; exact R1.out
        have IX : IMap Try.prog 3 w1 p.far c f := (S.out.2.1.alloc _).only O1.out (by show ¬ z p.far = 2; rw [S.out.2.2.1]; decide)
        have hf3 : nz z (wr.alloc (.cells #[.int .i64 0] 3)).heap.size 2 p.far = 3 := by
          rw [nz_lt z (by have := S.out.2.1.lt; simp; omega)]; exact S.out.2.2.1
        have hx : xs.length < 65536 := by omega
        have SA := SAt.grow (G := fun b => nz z (wr.alloc (.cells #[.int .i64 0] 3)).heap.size 2 b = 2) (G2 := fun b => nz z (wr.alloc (.cells #[.int .i64 0] 3)).heap.size 2 b = 3) RX IX hf3 hx S.out.2.2.2.2.1 S.out.2.2.2.2.2
        have M3 := M2.sRow hC2 O1.out _ q.st SA
        have hO : Only (fun b => b = g) w1 (w1.setCell ⟨g, 61, none⟩ (.slice (some ⟨g1, 0, none⟩) (xs.length + 1) cap1)) := (Only.refl (fun b => b = g) w1).cells (p := ⟨g, 61, none⟩) rfl _
        have hzg : nz z (wr.alloc (.cells #[.int .i64 0] 3)).heap.size 2 g = 1 := by rw [nz_lt z (by simp; omega)]; exact H.out.zg
        refine ⟨_, _, xs ++ [0], f, ?_, M3, ⟨?_, ?_, hf3, by simp; omega, S.out.2.2.2.2.1, ?_⟩, ?_⟩
        · rw [hl1]; omega
        · exact RX.only hO fun b hb hbg => by have := RX.2 b hb; rw [hbg] at this; omega
        · exact IX.only hO fun hbg => by rw [hbg] at hf3; omega
        · exact grow_law hx S.out.2.2.2.2.1 S.out.2.2.2.2.2
        · exact ((O.out.alloc _).trans O1.out fun b _ hb => H.out.foot b (by omega)).cells (p := ⟨g, 61, none⟩) H.out.cg _
      case measure => omega
    · obtain ⟨b, cap', hv, hb2, hbl, _⟩ := RR.out.form (by omega)
      injection hv with hA hcap1 hcap2
      subst hA
      clear hil
      obtain ⟨k, rfl⟩ := Int.eq_ofNat_of_zero_le hi0
      have hk : k < xs.length := by omega
      have cx : wr.cell? ⟨b, k, none⟩ = some (.int .i64 (xs.getD k 0)) := RR.out.cell (nums_get xs k hk)
      have fx : wr.frozen? ⟨b, k, none⟩ = false := RR.out.frozen k
      have RS := RR.out.stored k (.int .i64 v)
      rw [nums_set] at RS
      have hO : Only (fun b => z b = 2 ∨ z b = 3) wr (wr.setCell ⟨b, k, none⟩ (.int .i64 v)) := (Only.refl (fun b => z b = 2 ∨ z b = 3) wr).cells (p := ⟨b, k, none⟩) (.inl hb2) _
      have hl1 : (xs.set k v).length = xs.length := by simp
      have IX : IMap Try.prog 3 (wr.setCell ⟨b, k, none⟩ (.int .i64 v)) p.far c f := S.out.2.1.far (a := ⟨b, k, none⟩) (fun e => by have := S.out.2.2.1; rw [e] at this; have h2 : z b = 2 := hb2; exact absurd (h2.symm.trans this) (by decide)) _
      have SA := SAt.near_put (G := fun b => z b = 2) (G2 := fun b => z b = 3) (row := p.row) (i := k) (v := v) (by rw [HRW.out, hl1]; exact RS) IX S.out.2.2.1 S.out.2.2.2.1 S.out.2.2.2.2.1 S.out.2.2.2.2.2 hk
      have MF := Lib.hid (H.out.sSt hO (Nat.le_refl _) _ SA)
      have OF := Lib.hid (O.out.trans hO fun b _ hb => H.out.foot b (by omega))
      clear RS hO IX SA hb2
      generalize xs.getD k 0 = y at *
      go_wp2_with fail
      go_end0
      exact ⟨rfl, ⟨z, p, MF.out⟩, OF.out⟩
theorem wset_c (w : World) (C : Nat → Prop) (g : Nat) (K : MK) (q : MQ) (c : Nat) (h : MAt w C g K q c) (hC : ∀ b, w.heap.size ≤ b → C b) (i v : Int) (hi0 : 0 ≤ i) (hi : i ≤ 9223372036854775807) (hv : i64in v) (hc : c < 9000000000000) :
    Calls Try.prog 76 #[.pointer (some ⟨g, 61, none⟩), .int .i64 i, .int .i64 v] w (Did w C g K { q with st := sset q.st i v } (c + 1)) := by
  rcases Int.lt_or_le i 65536 with h1 | h1
  · exact (wset_near w C g K q c h hC i v hi0 h1).mono fun e w' hd => ⟨hd.1, hd.2.1.mono (by omega), hd.2.2⟩
  · exact wset_far w C g K q c h i v h1 hi hv hc
end Go.Proofs.Ytkjfbojmkkdgoaa
