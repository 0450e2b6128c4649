/- The walk of the document's own heap: a far word set. -/
import Derived.Test.YtoakmifihofpeaaW5
import Derived.Deep.DeepCutAuto
set_option linter.unusedVariables false
set_option linter.unusedSimpArgs false
namespace Go.Proofs.Ytoakmifihofpeaa
open Go.RowKit
attribute [local go_sem ↓] Go.wp_at_zero Go.wp_at_succ
def fpos : List Int → Int → Nat
  | [], _ => 0
  | x :: l, i => if x = i then 0 else fpos l i + 1
theorem fpos_le : ∀ (l : List Int) (i : Int), fpos l i ≤ l.length
  | [], _ => Nat.le_refl _
  | x :: l, i => by
    unfold fpos
    split
    · simp
    · have := fpos_le l i; simp; exact this
theorem fpos_hit : ∀ (l : List Int) (i : Int) (t : Nat), t < l.length → (∀ s, s < t → l.getD s 0 ≠ i) → l.getD t 0 = i → fpos l i = t
  | [], _, _, h, _, _ => by simp at h
  | x :: l, i, 0, _, _, h => by simp at h; simp [fpos, h]
  | x :: l, i, t + 1, h, hs, ht => by
    have h0 : x ≠ i := by have := hs 0 (by omega); simpa using this
    simp only [fpos, if_neg h0]
    rw [fpos_hit l i t (by simpa using h) (fun s hs' => by have := hs (s + 1) (by omega); simpa using this) (by simpa using ht)]
theorem fpos_miss : ∀ (l : List Int) (i : Int), (∀ s, s < l.length → l.getD s 0 ≠ i) → fpos l i = l.length
  | [], _, _ => rfl
  | x :: l, i, h => by
    have h0 : x ≠ i := by have := h 0 (by simp); simpa using this
    simp only [fpos, if_neg h0]
    rw [fpos_miss l i (fun s hs => by have := h (s + 1) (by simp; omega); simpa using this)]
    simp
/-- The far words with the i-th set. -/
def RH.setFar (r : RH) (k : Nat) (i x : Int) : RH :=
  if fpos (r.X k 1) i < (r.X k 1).length then r.setX k 2 ((r.X k 2).set (fpos (r.X k 1) i) x) else (r.setX k 1 (r.X k 1 ++ [i])).setX k 2 (r.X k 2 ++ [x])
theorem app_step {w wr w1 : World} {F : Nat → Prop} {g : Nat} {r : RH} {vb cap : Nat} {V : Nat → Nat → Value} (H3 : RP wr (fun b => F b ∨ w.heap.size ≤ b) g r (.slice (some ⟨vb, 0, none⟩) r.N cap) V) (H4 : Only F w wr) (hFv : F vb)
    {k j : Nat} (hk : k < r.N) (hj : j < 3) {A0 : Option Addr} {L cap0 : Nat} (hV : V k j = .slice A0 L cap0) (hL : L = (r.X k j).length) {gg cap1 : Nat} {x : Int}
    (hown : w1.ownsRow 0 3 1 (.slice (some ⟨gg, 0, none⟩) (L + 1) cap1) (L + 1) (nums (r.X k j) ++ [.int .i64 x])) (hg : (wr.alloc (.cells #[.int .i64 x] 3)).drew.grownBy w1 (Value.slice A0 L cap0).ownBlock)
    (hat : (Value.slice A0 L cap0).ownBlock = some gg ∨ gg = wr.heap.size + 1) :
    RP (w1.setCell ⟨vb, k * 5 + 2 + j, none⟩ (.slice (some ⟨gg, 0, none⟩) (L + 1) cap1)) (fun b => F b ∨ w.heap.size ≤ b) g (r.setX k j (r.X k j ++ [x])) (.slice (some ⟨vb, 0, none⟩) r.N cap) (upd2 V k j (.slice (some ⟨gg, 0, none⟩) (L + 1) cap1)) ∧
      Only F w (w1.setCell ⟨vb, k * 5 + 2 + j, none⟩ (.slice (some ⟨gg, 0, none⟩) (L + 1) cap1)) := by
  have hw : wr.heap.size ≤ (wr.alloc (.cells #[.int .i64 x] 3)).drew.heap.size := by
    show _ ≤ (wr.alloc (.cells #[.int .i64 x] 3)).heap.size
    simp
  have K := ((H3.alloc (.cells #[.int .i64 x] 3)).drew).appended (k := k) (j := j) (x := x) (v1 := .slice (some ⟨gg, 0, none⟩) (L + 1) cap1) (w1 := w1) hk hj
    (by rw [← hL]; exact hown) (by rw [hV]; exact hg) (H := wr.heap.size + 1) (by
      rcases hat with e | e
      · left; rw [hV, e]; rfl
      · right; rw [e]; rfl) (by show (wr.alloc (.cells #[.int .i64 x] 3)).heap.size ≤ _; simp)
  refine ⟨K.more (fun b hb hf => ?_), ?_⟩
  · rcases hf with hf | hf
    · exact hf
    · exact .inr (Nat.le_trans H4.size (Nat.le_trans hw hf))
  · have rr := H3.rows k hk j hj
    rw [hV] at rr
    exact (((H4.alloc _).drew).grown hg (fun b hb => rr.2 b hb)).setCell (p := ⟨vb, k * 5 + 2 + j, none⟩) (.inl hFv) _
/-- What a region that appends to one of the three rows wants to know. -/
theorem app_facts {wr : World} {F : Nat → Prop} {g : Nat} {r : RH} {vb cap : Nat} {V : Nat → Nat → Value} (H3 : RP wr F g r (.slice (some ⟨vb, 0, none⟩) r.N cap) V) {k j : Nat} (hk : k < r.N) (hj : j < 3) {A0 : Option Addr} {L cap0 : Nat} (hV : V k j = .slice A0 L cap0) (hL : L = (r.X k j).length) :
    (Value.slice A0 L cap0).ownBlock ≠ some g ∧ (Value.slice A0 L cap0).ownBlock ≠ some vb ∧ wr.ownsRow 0 3 1 (.slice A0 L cap0) L (nums (r.X k j)) := by
  have rr := H3.rows k hk j hj
  rw [hV, ← hL] at rr
  refine ⟨own_blk_ne rr.1 H3.blk (by decide), ?_, rr.1⟩
  rcases rr.ne_type H3.row (by decide) with e | e
  · rw [e]; simp
  · exact e
set_option maxHeartbeats 16000000 in
set_option maxRecDepth 100000 in
theorem rset_far (w : World) (F : Nat → Prop) (g : Nat) (r : RH) (a i x : Int) (h : RHeapAt w F g r) (hs : Sorted r) (hN : r.N ≤ 1000000) (k : Nat) (hk : k < r.N) (hka : r.ad k = a) (hi1 : i < r.nn k) (hn : 4096 ≤ i) (hfar : (r.X k 1).length = (r.X k 2).length) (hb : (r.X k 1).length ≤ 1000000) :
    Calls Try.prog 23 #[.pointer (some ⟨g, 0, none⟩), .int .i64 a, .int .i64 i, .int .i64 x] w fun e w' => e = .returned (.bool true) ∧ RHeapAt w' (fun b => F b ∨ w.heap.size ≤ b) g (r.setFar k i x) ∧ Only F w w' := by
  have FC := Lib.hid (find_c w F g r a h hs hN)
  obtain ⟨i0, hI, hz0, hz1, hz2⟩ := info_parts info3
  have HI := Lib.hid hI
  have HZ0 := Lib.hid hz0
  have HZ1 := Lib.hid hz1
  have HZ2 := Lib.hid hz2
  clear hI hz0 hz1 hz2
  go_enter Try.func23, Try.ntmps23
  go_wp2_with fail
  refine FC.out.mono ?_
  rintro e w' ⟨z, rfl, hz, rfl⟩
  obtain rfl : z = (k : Int) := by
    rcases hz with ⟨k', rfl, hk', hka'⟩ | ⟨rfl, hno⟩
    · rcases Nat.lt_trichotomy k' k with h1 | h1 | h1
      · have := hs k' k h1 hk; omega
      · rw [h1]
      · have := hs k k' h1 hk'; omega
    · exact absurd hka (hno k hk)
  clear hz FC hka hs
  obtain ⟨v, V, hr⟩ := h
  obtain ⟨vb, cap, rfl, hFv, _, hcap⟩ := hr.row.form (by omega)
  have c0 : w.cell? ⟨g, 0, none⟩ = some (.slice (some ⟨vb, 0, none⟩) r.N cap) := hr.blk.cell 0
  have cn := hr.nn_cell hk
  have cv1 : w.cell? ⟨vb, k * 5 + 3, none⟩ = some (V k 1) := hr.V_cell (j := 1) hk (by omega)
  have cv2 : w.cell? ⟨vb, k * 5 + 4, none⟩ = some (V k 2) := hr.V_cell (j := 2) hk (by omega)
  have R1 := hr.rows k hk 1 (by omega)
  have R2 := hr.rows k hk 2 (by omega)
  obtain ⟨A1, cap1, hV1, hcap1⟩ := R1.shape
  obtain ⟨A2, cap2, hV2, hcap2⟩ := R2.shape
  rw [hV1] at cv1 R1
  rw [hV2] at cv2 R2
  rw [← hfar] at cv2 R2 hcap2
  obtain ⟨L, hL⟩ : ∃ L, L = (r.X k 1).length := ⟨_, rfl⟩
  rw [← hL] at cv1 cv2 R1 R2 hcap1 hcap2 hb
  have HV1 := Lib.hid (show V k 1 = .slice A1 L cap1 by rw [hL]; exact hV1)
  have HV2 := Lib.hid (show V k 2 = .slice A2 L cap2 by rw [hL, hfar]; exact hV2)
  have HL := Lib.hid hL
  have HF := Lib.hid hfar
  have HR := Lib.hid hr
  have A1C := Lib.hid (fun t (ht : t < L) (ab : Nat) (hA : A1 = some ⟨ab, 0, none⟩) => show w.cell? ⟨ab, t, none⟩ = some (.int .i64 ((r.X k 1).getD t 0)) from by subst hA; exact R1.cell (nums_get _ t (by omega)))
  have A2C := Lib.hid (fun t (ht : t < L) (fb : Nat) (hA : A2 = some ⟨fb, 0, none⟩) => show w.cell? ⟨fb, t, none⟩ = some (.int .i64 ((r.X k 2).getD t 0)) ∧ w.frozen? ⟨fb, t, none⟩ = false from by subst hA; exact ⟨R2.cell (nums_get _ t (by omega)), R2.frozen t⟩)
  have A1F := Lib.hid (fun (hp : 0 < L) => R1.form hp)
  have A2F := Lib.hid (fun (hp : 0 < L) => R2.form hp)
  clear hr hV1 hV2 hL hfar R1 R2
  go_wp2_with fail
  go_loop [10] (fun y => ∃ t : Nat, t ≤ L ∧ y = .int .i64 t ∧ Hid (∀ s, s < t → (r.X k 1).getD s 0 ≠ i)) (fun y => L - (intOf y).toNat)
  case atStart => exact ⟨0, by omega, rfl, fun s hs => by omega⟩
  case round =>
    obtain ⟨t, ht, rfl, HS⟩ := hrel
    by_cases hlt : t < L
    · obtain ⟨ab, ac, hab, _, _, _⟩ := A1F.out (by omega)
      injection hab with hA1 _ hc1
      subst hA1
      have ca := A1C.out t hlt ab rfl
      by_cases he : (r.X k 1).getD t 0 = i
      · obtain ⟨fb, fc, hfb, hFf, _, _⟩ := A2F.out (by omega)
        injection hfb with hA2 _ hc2
        subst hA2
        obtain ⟨cf, ff⟩ := A2C.out t hlt fb rfl
        have K := HR.out.stored (k := k) (j := 2) hk (by omega) (nb := fb) (c := cap2) (by rw [HV2.out, ← HF.out, ← HL.out]) t x
        have hp : fpos (r.X k 1) i = t := fpos_hit _ _ t (by rw [← HL.out]; exact hlt) HS.out he
        have KK := Lib.hid (show RHeapAt (w.setCell ⟨fb, t, none⟩ (.int .i64 x)) (fun b => F b ∨ w.heap.size ≤ b) g (r.setFar k i x) from by
          rw [RH.setFar, hp, if_pos (by rw [← HL.out]; exact hlt)]
          exact ⟨_, _, K.1.more fun b _ hb => .inl hb⟩)
        have O := Lib.hid ((Only.refl F w).setCell (p := ⟨fb, t, none⟩) (.inl hFf) (.int .i64 x))
        have he' : ((r.X k 1).getD t 0 == i) = true := beq_iff_eq.2 he
        clear K HS he hc1 hc2 hp HR A1C A2C A1F A2F HV1 HV2 HF HL
        generalize (r.X k 1).getD t 0 = y at *
        generalize (r.X k 2).getD t 0 = y2 at *
        go_wp2_with fail
        go_ret
        exact ⟨rfl, KK.out, O.out⟩
      · have he' : ((r.X k 1).getD t 0 == i) = false := beq_eq_false_iff_ne.2 he
        have HS2 := Lib.hid (show ∀ s, s < t + 1 → (r.X k 1).getD s 0 ≠ i from fun s hs => by
          rcases Nat.lt_or_ge s t with h5 | h5
          · exact HS.out s h5
          · obtain rfl : s = t := by omega
            exact he)
        clear HS he hc1 A1C A2C A1F A2F HV1 HV2 HF HL HR
        generalize hy : (r.X k 1).getD t 0 = y at *
        clear hy
        go_wp2_with fail
        go_round
        case rel => exact ⟨t + 1, by omega, by go_num, HS2.out⟩
        case measure => simp [intOf]; omega
    · obtain rfl : t = L := by omega
      have FM := Lib.hid (show r.setFar k i x = (r.setX k 1 (r.X k 1 ++ [i])).setX k 2 (r.X k 2 ++ [x]) from by
        rw [RH.setFar, fpos_miss _ _ (fun s hs => HS.out s (by rw [HL.out]; exact hs)), if_neg (by omega)])
      clear HS A1C A2C A1F A2F hlt
      have hk0 : (0 : Int) ≤ (k : Int) := Int.natCast_nonneg _
      have hk1 : (k : Int) < (r.N : Int) := by omega
      go_upto_region 15 with fail
      go_cut [] (fun wc => ∃ V2 : Nat → Nat → Value, Hid (RP wc (fun b => F b ∨ w.heap.size ≤ b) g (r.setX k 1 (r.X k 1 ++ [i])) (.slice (some ⟨vb, 0, none⟩) r.N cap) V2 ∧ V2 k 2 = V k 2) ∧ Hid (Only F w wc))
      case first =>
        have FT := app_facts HR.out hk (show 1 < 3 by omega) HV1.out HL.out
        have AG := Lib.hid FT.1
        have AV := Lib.hid FT.2.1
        have OW := Lib.hid FT.2.2
        clear FT
        have FV : w.frozen? ⟨vb, k * 5 + 3, none⟩ = false := HR.out.row.frozen _
        have hgl : g < w.heap.size := HR.out.blk.lt
        have hvl : vb < w.heap.size := HR.out.row.lt rfl
        have NE := World.new_ne w _ cv1
        have NE2 := World.new_ne w _ c0
        have STEP := Lib.hid (fun (gg cap' : Nat) (w1 : World) => app_step (w1 := w1) (gg := gg) (cap1 := cap') (x := i) (HR.out.more (G := fun b => F b ∨ w.heap.size ≤ b) (fun b _ hb => .inl hb)) (Only.refl F w) hFv hk (show 1 < 3 by omega) HV1.out HL.out)
        clear cn cv2
        go_region_law
          ((refine step_append_lies _ (by rfl) (.tmp 122) (.tmp 124) 32 (by rfl) 0 3 i0 _ 1 8 Try.underlying32 HI.out HZ0.out HZ1.out HZ2.out rfl (by omega) (.slice A1 t cap1) t (nums (r.X k 1)) (by rfl) ((OW.out.drew).alloc _) ⟨w.heap.size, 0, none⟩ 1 1 [.int .i64 i] (by rfl) (by rfl) (World.news_of_block (cs := #[.int .i64 i]) (t := 3) (fr := (0, 0)) (heap_alloc_new _ _)) (by simp [Value.oneCell']) (by omega) (by unfold maxLen; omega) (by omega) (Nat.zero_le _) (w.heap.size + 1) (by simp) ?_; intro gg cap' w1 hown1 hgrow hat hlt; have e0 : w1.cell? ⟨g, 0, none⟩ = some (.slice (some ⟨vb, 0, none⟩) r.N cap) := (by rw [hgrow.cell_far _ (by simp; omega) (Ne.symm AG.out)]; go_keep); have e1 : w1.cell? ⟨vb, k * 5 + 3, none⟩ = some (.slice A1 t cap1) := (by rw [hgrow.cell_far _ (by simp; omega) (Ne.symm AV.out)]; go_keep); have e2 : w1.frozen? ⟨vb, k * 5 + 3, none⟩ = false := (by rw [hgrow.frozen_far _ (by simp; omega) (Ne.symm AV.out)]; exact (frozen?_alloc_cells _ _ _ _).trans FV)))
        all_goals
          go_wp2_with fail
          go_meet
          exact ⟨_, ⟨(STEP.out gg cap' w1 hown1 hgrow hat).1, upd2_other _ _ _ _ (by omega)⟩, (STEP.out gg cap' w1 hown1 hgrow hat).2⟩
      case rest =>
        obtain ⟨V2, H3, H4⟩ := hcut
        have HX : (r.setX k 1 (r.X k 1 ++ [i])).X k 2 = r.X k 2 := upd2_other _ _ _ _ (by omega)
        have hL2 : t = ((r.setX k 1 (r.X k 1 ++ [i])).X k 2).length := by rw [HX, ← HF.out]; exact HL.out
        have hV2' : V2 k 2 = .slice A2 t cap2 := H3.out.2.trans HV2.out
        have HP := Lib.hid H3.out.1
        have FT := app_facts HP.out (show k < (r.setX k 1 (r.X k 1 ++ [i])).N from hk) (show 2 < 3 by omega) hV2' hL2
        have STEP := Lib.hid (fun (gg cap' : Nat) (w1 : World) => app_step (w1 := w1) (gg := gg) (cap1 := cap') (x := x) HP.out H4.out hFv (show k < (r.setX k 1 (r.X k 1 ++ [i])).N from hk) (show 2 < 3 by omega) hV2' hL2)
        rw [HX] at FT STEP
        have d0 : wc.cell? ⟨g, 0, none⟩ = some (.slice (some ⟨vb, 0, none⟩) r.N cap) := HP.out.blk.cell 0
        have dV : wc.cell? ⟨vb, k * 5 + 4, none⟩ = some (.slice A2 t cap2) := by
          have := HP.out.V_cell (k := k) (j := 2) hk (by omega)
          rw [hV2'] at this
          exact this
        have FV : wc.frozen? ⟨vb, k * 5 + 4, none⟩ = false := HP.out.row.frozen _
        have hgl : g < wc.heap.size := HP.out.blk.lt
        have hvl : vb < wc.heap.size := HP.out.row.lt rfl
        have AG := Lib.hid FT.1
        have AV := Lib.hid FT.2.1
        have OW := Lib.hid FT.2.2
        have NE := World.new_ne wc _ dV
        have NE2 := World.new_ne wc _ d0
        clear FT H3 H4 HX hL2 hV2' HR HV1 HV2 c0 cn cv1 cv2
        go_wp2_with fail
        go_region_law
          ((refine step_append_lies _ (by rfl) (.tmp 140) (.tmp 142) 32 (by rfl) 0 3 i0 _ 1 8 Try.underlying32 HI.out HZ0.out HZ1.out HZ2.out rfl (by omega) (.slice A2 t cap2) t (nums (r.X k 2)) (by rfl) ((OW.out.drew).alloc _) ⟨wc.heap.size, 0, none⟩ 1 1 [.int .i64 x] (by rfl) (by rfl) (World.news_of_block (cs := #[.int .i64 x]) (t := 3) (fr := (0, 0)) (heap_alloc_new _ _)) (by simp [Value.oneCell']) (by omega) (by unfold maxLen; omega) (by omega) (Nat.zero_le _) (wc.heap.size + 1) (by simp) ?_; intro gg cap' w1 hown1 hgrow hat hlt; have e0 : w1.cell? ⟨g, 0, none⟩ = some (.slice (some ⟨vb, 0, none⟩) r.N cap) := (by rw [hgrow.cell_far _ (by simp; omega) (Ne.symm AG.out)]; go_keep); have e1 : w1.cell? ⟨vb, k * 5 + 4, none⟩ = some (.slice A2 t cap2) := (by rw [hgrow.cell_far _ (by simp; omega) (Ne.symm AV.out)]; go_keep); have e2 : w1.frozen? ⟨vb, k * 5 + 4, none⟩ = false := (by rw [hgrow.frozen_far _ (by simp; omega) (Ne.symm AV.out)]; exact (frozen?_alloc_cells _ _ _ _).trans FV)))
        all_goals
          go_wp2_with fail
          go_ret
          exact ⟨rfl, by rw [FM.out]; exact ⟨_, _, (STEP.out gg cap' w1 hown1 hgrow hat).1⟩, (STEP.out gg cap' w1 hown1 hgrow hat).2⟩
end Go.Proofs.Ytoakmifihofpeaa
