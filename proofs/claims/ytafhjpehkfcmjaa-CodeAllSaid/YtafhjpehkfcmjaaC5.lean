/- CodeAll's apart: the walk. -/
import Derived.Test.YtafhjpehkfcmjaaC4
set_option linter.unusedVariables false
set_option linter.unusedSimpArgs false
namespace Go.Proofs.Ytafhjpehkfcmjaa
open Go.RowKit
attribute [local go_sem ↓] Go.wp_at_zero Go.wp_at_succ
theorem v0_in {n0 : Nat → Nat} {i j : Nat} (h : j < n0 i) : val0 n0 i j = .int .u8 ((i : Int) + 1) := by unfold val0; rw [if_pos h]
theorem v0_out {n0 : Nat → Nat} {i j : Nat} (h : ¬ j < n0 i) : val0 n0 i j = .int .u8 ((i : Int) + 101) := by unfold val0; rw [if_neg h]
theorem v1_in {n1 : Nat → Nat} {i j : Nat} (h : j < n1 i) : val1 n1 i (j * 5) = .int .i64 (-1 - (i : Int)) ∧ val1 n1 i (j * 5 + 1) = .int .i64 0 ∧ val1 n1 i (j * 5 + 2) = .int .i64 0 ∧ val1 n1 i (j * 5 + 3) = .int .i64 0 ∧ val1 n1 i (j * 5 + 4) = .int .i64 (j : Int) := by
  have v := fun t ht => val1_at n1 i j t ht
  have e : insM n1 i j = ⟨-1 - (i : Int), 0, 0, 0, j⟩ := by rw [insM, if_pos h]
  rw [e] at v
  exact ⟨v 0 (by omega), v 1 (by omega), v 2 (by omega), v 3 (by omega), v 4 (by omega)⟩
theorem v1_out {n1 : Nat → Nat} {i j : Nat} (h : ¬ j < n1 i) : val1 n1 i (j * 5) = .int .i64 (-1000000 - (i : Int)) := by
  have v := val1_at n1 i j 0 (by omega)
  rw [insM, if_neg h] at v
  exact v
theorem v2_in {n2 : Nat → Nat} {i j : Nat} (h : j < n2 i) : val2 n2 i (j * 5) = .string ⟨#[]⟩ ∧ val2 n2 i (j * 5 + 1) = .int .i64 0 ∧ val2 n2 i (j * 5 + 2) = .int .i64 (-1 - (i : Int)) ∧ val2 n2 i (j * 5 + 3) = .int .i64 (j : Int) ∧ val2 n2 i (j * 5 + 4) = .int .i64 0 := by
  have v := fun t ht => val2_at n2 i j t ht
  have e : fnM n2 i j = ⟨⟨#[]⟩, 0, -1 - (i : Int), j, 0⟩ := by rw [fnM, if_pos h]
  rw [e] at v
  exact ⟨v 0 (by omega), v 1 (by omega), v 2 (by omega), v 3 (by omega), v 4 (by omega)⟩
theorem v2_out {n2 : Nat → Nat} {i j : Nat} (h : ¬ j < n2 i) : val2 n2 i (j * 5 + 2) = .int .i64 (-1000000 - (i : Int)) := by
  have v := val2_at n2 i j 2 (by omega)
  rw [fnM, if_neg h] at v
  exact v
/-- What the last part reads of the i-th rows. -/
theorem M2.facts {w wx : World} {T f0 f1 f2 cr0 cr1 cr2 tb cb : Nat} {W0 W1 W2 : Nat → Value} {B0 B1 B2 : Nat → Nat} {V0 V1 V2 : Nat → Value} {n0 n1 n2 : Nat → Nat} {m : Nat → Int} {H s1 i : Nat} {A0 A1 A2 : Option Addr} {c0 c1 c2 x0 x1 x2 : Nat}
    (h : M2 (AE.mk T (some ⟨tb, 0, none⟩) (some ⟨cb, 0, none⟩) V0 V1 V2 n0 n1 n2 m H s1) w wx T (.slice (some ⟨f0, 0, none⟩) T cr0) (.slice (some ⟨f1, 0, none⟩) T cr1) (.slice (some ⟨f2, 0, none⟩) T cr2) W0 W1 W2 B0 B1 B2) (hi : i < T)
    (e0 : V0 i = .slice A0 (n0 i) c0) (e1 : V1 i = .slice A1 (n1 i) c1) (e2 : V2 i = .slice A2 (n2 i) c2) (h0 : W0 i = .slice (some ⟨B0 i, 0, none⟩) (n0 i + 60) x0) (h1 : W1 i = .slice (some ⟨B1 i, 0, none⟩) (n1 i + 60) x1) (h2 : W2 i = .slice (some ⟨B2 i, 0, none⟩) (n2 i + 60) x2) :
    wx.cell? ⟨tb, i, none⟩ = some (.slice A0 (n0 i) c0) ∧ wx.cell? ⟨cb, i * 3, none⟩ = some (.slice A1 (n1 i) c1) ∧ wx.cell? ⟨cb, i * 3 + 1, none⟩ = some (.slice A2 (n2 i) c2) ∧
    wx.cell? ⟨f0, i, none⟩ = some (.slice (some ⟨B0 i, 0, none⟩) (n0 i + 60) x0) ∧ wx.cell? ⟨f1, i, none⟩ = some (.slice (some ⟨B1 i, 0, none⟩) (n1 i + 60) x1) ∧ wx.cell? ⟨f2, i, none⟩ = some (.slice (some ⟨B2 i, 0, none⟩) (n2 i + 60) x2) ∧
    (∀ b j, A0 = some ⟨b, 0, none⟩ → j < n0 i → wx.cell? ⟨b, j, none⟩ = some (val0 n0 i j)) ∧ (∀ j, j < n0 i + 60 → wx.cell? ⟨B0 i, j, none⟩ = some (val0 n0 i j)) ∧
    (∀ b j, A1 = some ⟨b, 0, none⟩ → j < n1 i * 5 → wx.cell? ⟨b, j, none⟩ = some (val1 n1 i j)) ∧ (∀ j, j < (n1 i + 60) * 5 → wx.cell? ⟨B1 i, j, none⟩ = some (val1 n1 i j)) ∧
    (∀ b j, A2 = some ⟨b, 0, none⟩ → j < n2 i * 5 → wx.cell? ⟨b, j, none⟩ = some (val2 n2 i j)) ∧ (∀ j, j < (n2 i + 60) * 5 → wx.cell? ⟨B2 i, j, none⟩ = some (val2 n2 i j)) := by
  obtain ⟨tb', ea, _, _, a0⟩ := h.hd.ht i hi
  injection ea with ea
  injection ea with ea _ _
  obtain ⟨cb', ec, _, _, a1, a2, _⟩ := h.hd.hc i hi
  injection ec with ec
  injection ec with ec _ _
  subst ea ec
  refine ⟨a0.trans (congrArg some e0), a1.trans (congrArg some e1), a2.trans (congrArg some e2), ?_, ?_, ?_, ?_, ?_, ?_, ?_, ?_, ?_⟩
  · rw [own_cells h.g3.o0 (b := f0) rfl i (by omega), cellsOf_get _ hi, h0]
  · rw [own_cells h.g3.o1 (b := f1) rfl i (by omega), cellsOf_get _ hi, h1]
  · rw [own_cells h.g3.o2 (b := f2) rfl i (by omega), cellsOf_get _ hi, h2]
  · rintro b j rfl hj
    exact (h.f0.kept i hi b (show (V0 i).ownBlock = some b by rw [e0]; rfl)).2.2 j (show j < n0 i * 1 by omega)
  · exact fun j hj => (h.f0.stc i hi).2 j (show j < (n0 i + 60) * 1 by omega)
  · rintro b j rfl hj
    exact (h.f1.kept i hi b (show (V1 i).ownBlock = some b by rw [e1]; rfl)).2.2 j hj
  · exact fun j hj => (h.f1.stc i hi).2 j hj
  · rintro b j rfl hj
    exact (h.f2.kept i hi b (show (V2 i).ownBlock = some b by rw [e2]; rfl)).2.2 j hj
  · exact fun j hj => (h.f2.stc i hi).2 j hj
theorem s28_info : ∃ i, Try.prog.info? 28 = some i ∧ i.zero = some (.slice none 0 0) ∧ i.size = 1 ∧ i.bytes = 24 := info_of (by kernel_rfl)
theorem s22_info : ∃ i, Try.prog.info? 22 = some i ∧ i.zero = some (.slice none 0 0) ∧ i.size = 1 ∧ i.bytes = 24 := info_of (by kernel_rfl)
theorem s23_info : ∃ i, Try.prog.info? 23 = some i ∧ i.zero = some (.slice none 0 0) ∧ i.size = 1 ∧ i.bytes = 24 := info_of (by kernel_rfl)
theorem F1P.shp {w : World} {H : Nat} {e : TypeId} {size N : Nat} {V : Nat → Value} {n : Nat → Nat} {val : Nat → Nat → Value} {i q : Nat} (h : F1P w H e size N V n val i q) : ∀ k, k < N → ∃ A c, V k = .slice A (n k) c ∧ n k ≤ c ∧ c ≤ 9223372036854775807 ∧ (0 < n k → ∃ b, A = some ⟨b, 0, none⟩) := fun k hk => h.shape hk
set_option maxRecDepth 100000 in
set_option maxHeartbeats 64000000 in
theorem apart_c (T : Nat) (A C : Option Addr) (V0 V1 V2 : Nat → Value) (n0 n1 n2 : Nat → Nat) (m : Nat → Int) (H s1 : Nat) (w : World) (cA cC : Nat) (hA : T ≤ cA) (hC : T ≤ cC) (hA2 : cA ≤ 9223372036854775807) (hC2 : cC ≤ 9223372036854775807) (hT : T ≤ 90)
    (hn0 : ∀ k, k < T → n0 k ≤ 1000000) (hn1 : ∀ k, k < T → n1 k ≤ 1000000) (hn2 : ∀ k, k < T → n2 k ≤ 1000000) (h : M1 (AE.mk T A C V0 V1 V2 n0 n1 n2 m H s1) w w 0 0 0 0 0 0) (hs : H ≤ s1) :
    Calls Try.prog 21 #[.slice A T cA, .slice C T cC] w fun e w' => e = .returned (.bool true) ∧ Below H w w' := by
  have S0 := Lib.hid h
  have SH0 : Hid (∀ k, k < T → ∃ A c, V0 k = .slice A (n0 k) c ∧ n0 k ≤ c ∧ c ≤ 9223372036854775807 ∧ (0 < n0 k → ∃ b, A = some ⟨b, 0, none⟩)) := h.f0.shp
  have SH1 : Hid (∀ k, k < T → ∃ A c, V1 k = .slice A (n1 k) c ∧ n1 k ≤ c ∧ c ≤ 9223372036854775807 ∧ (0 < n1 k → ∃ b, A = some ⟨b, 0, none⟩)) := h.f1.shp
  have SH2 : Hid (∀ k, k < T → ∃ A c, V2 k = .slice A (n2 k) c ∧ n2 k ≤ c ∧ c ≤ 9223372036854775807 ∧ (0 < n2 k → ∃ b, A = some ⟨b, 0, none⟩)) := h.f2.shp
  have HN0 := Lib.hid hn0
  have HN1 := Lib.hid hn1
  have HN2 := Lib.hid hn2
  clear h hn0 hn1 hn2
  go_enter Try.func21, Try.ntmps21
  go_upto_region 2 with fail
  go_loopw [5] (fun iv wx => ∃ i : Nat, i ≤ T ∧ iv = .int .i64 (i : Int) ∧ Hid (M1 (AE.mk T A C V0 V1 V2 n0 n1 n2 m H s1) w wx i 0 i 0 i 0)) (fun iv _ => T - (intOf iv).toNat)
  case atStart => exact ⟨0, by omega, rfl, S0⟩
  case round =>
    clear S0
    obtain ⟨i, hi, rfl, S⟩ := hrel
    by_cases hlt : i < T
    · as_aux_lemma =>
        obtain ⟨A0, c0, e0, k00, k01, hb0⟩ := SH0.out i hlt
        obtain ⟨A1, c1, e1, k10, k11, hb1⟩ := SH1.out i hlt
        obtain ⟨A2, c2, e2, k20, k21, hb2⟩ := SH2.out i hlt
        have E0 := Lib.hid e0
        have E1 := Lib.hid e1
        have E2 := Lib.hid e2
        have hm0 := HN0.out i hlt
        have hm1 := HN1.out i hlt
        have hm2 := HN2.out i hlt
        obtain ⟨tb, eA, _⟩ := S.out.hd.ht i hlt
        obtain rfl : A = some ⟨tb, 0, none⟩ := eA
        obtain ⟨cb, eC, _⟩ := S.out.hd.hc i hlt
        obtain rfl : C = some ⟨cb, 0, none⟩ := eC
        clear e0 e1 e2
        have HD0 : Hid (∀ wx, HD (AE.mk T (some ⟨tb, 0, none⟩) (some ⟨cb, 0, none⟩) V0 V1 V2 n0 n1 n2 m H s1) wx → wx.cell? ⟨tb, i, none⟩ = some (.slice A0 (n0 i) c0) ∧ wx.cell? ⟨cb, i * 3, none⟩ = some (.slice A1 (n1 i) c1) ∧ wx.cell? ⟨cb, i * 3 + 1, none⟩ = some (.slice A2 (n2 i) c2)) := fun wx h => by
          obtain ⟨tb', e3, _, _, h3⟩ := h.ht i hlt
          injection e3 with e3
          injection e3 with e3 _ _
          obtain ⟨cb', e4, _, _, h4, h5, _⟩ := h.hc i hlt
          injection e4 with e4
          injection e4 with e4 _ _
          subst e3 e4
          exact ⟨h3.trans (congrArg some E0.out), h4.trans (congrArg some E1.out), h5.trans (congrArg some E2.out)⟩
        go_upto_region 5 with fail
        go_loopw [6] (fun jv wx => ∃ j : Nat, j ≤ n0 i ∧ jv = .int .i64 (j : Int) ∧ Hid (M1 (AE.mk T (some ⟨tb, 0, none⟩) (some ⟨cb, 0, none⟩) V0 V1 V2 n0 n1 n2 m H s1) w wx i j i 0 i 0)) (fun jv _ => n0 i - (intOf jv).toNat)
        case atStart => exact ⟨0, by omega, rfl, S⟩
        case round =>
          clear S
          obtain ⟨j, hj, rfl, S⟩ := hrel
          obtain ⟨ch, _, _⟩ := HD0.out _ S.out.hd
          by_cases hjl : j < n0 i
          · obtain ⟨b, rfl⟩ := hb0 (by omega)
            obtain ⟨u0, kc⟩ := S.out.f0.cell hlt E0.out (j := j) (by show j < n0 i * 1; omega)
            have kz := S.out.f0.frozen hlt E0.out j
            have S2 := Lib.hid (S.out.set0 hlt E0.out (by show j < n0 i * 1; omega) (.int .u8 ((i : Int) + 1)) (by show _ = val0 n0 i j; unfold val0; rw [if_pos hjl]))
            clear S
            have i1 : (i : Int) < (T : Int) := by omega
            have i2 : (j : Int) < (n0 i : Int) := by omega
            go_wp2_with fail
            go_roundw
            case rel => exact ⟨j + 1, by omega, by go_num, S2⟩
            case measure => first | (simp [intOf]; done) | (simp [intOf]; omega)
          · obtain rfl : j = n0 i := by omega
            have S1a : M1 (AE.mk T (some ⟨tb, 0, none⟩) (some ⟨cb, 0, none⟩) V0 V1 V2 n0 n1 n2 m H s1) w wr i (n0 i * 1) i 0 i 0 := by rw [Nat.mul_one]; exact S.out
            have S1 := Lib.hid (S1a.done0 hlt)
            clear S S1a
            have i1 : (i : Int) < (T : Int) := by omega
            go_wp2_with fail
            clear ch
            go_loopw [7] (fun jv wx => ∃ j : Nat, j ≤ n1 i ∧ jv = .int .i64 (j : Int) ∧ Hid (M1 (AE.mk T (some ⟨tb, 0, none⟩) (some ⟨cb, 0, none⟩) V0 V1 V2 n0 n1 n2 m H s1) w wx (i + 1) 0 i (j * 5) i 0)) (fun jv _ => n1 i - (intOf jv).toNat)
            case atStart => exact ⟨0, by omega, rfl, (by rw [Nat.zero_mul]; exact S1)⟩
            case round =>
              clear S1
              obtain ⟨j, hj, rfl, S⟩ := hrel
              obtain ⟨_, ch, _⟩ := HD0.out _ S.out.hd
              by_cases hjl : j < n1 i
              · obtain ⟨b, rfl⟩ := hb1 (by omega)
                obtain ⟨u0, x0⟩ := S.out.f1.cell hlt E1.out (j := j * 5) (by show j * 5 < n1 i * 5; omega)
                obtain ⟨u1, x1⟩ := S.out.f1.cell hlt E1.out (j := j * 5 + 1) (by show j * 5 + 1 < n1 i * 5; omega)
                obtain ⟨u2, x2⟩ := S.out.f1.cell hlt E1.out (j := j * 5 + 2) (by show j * 5 + 2 < n1 i * 5; omega)
                obtain ⟨u3, x3⟩ := S.out.f1.cell hlt E1.out (j := j * 5 + 3) (by show j * 5 + 3 < n1 i * 5; omega)
                obtain ⟨u4, x4⟩ := S.out.f1.cell hlt E1.out (j := j * 5 + 4) (by show j * 5 + 4 < n1 i * 5; omega)
                have kz := S.out.f1.frozen hlt E1.out
                have S2 := Lib.hid (S.out.put1 hlt E1.out hjl)
                clear S
                have i1 : (i : Int) < (T : Int) := by omega
                have i2 : (j : Int) < (n1 i : Int) := by omega
                go_wp2_with fail
                go_roundw
                case rel => exact ⟨j + 1, by omega, by go_num, S2⟩
                case measure => first | (simp [intOf]; done) | (simp [intOf]; omega)
              · obtain rfl : j = n1 i := by omega
                have S1 := Lib.hid (S.out.done1 hlt)
                clear S
                have i1 : (i : Int) < (T : Int) := by omega
                go_wp2_with fail
                clear ch
                go_loopw [8] (fun jv wx => ∃ j : Nat, j ≤ n2 i ∧ jv = .int .i64 (j : Int) ∧ Hid (M1 (AE.mk T (some ⟨tb, 0, none⟩) (some ⟨cb, 0, none⟩) V0 V1 V2 n0 n1 n2 m H s1) w wx (i + 1) 0 (i + 1) 0 i (j * 5))) (fun jv _ => n2 i - (intOf jv).toNat)
                case atStart => exact ⟨0, by omega, rfl, (by rw [Nat.zero_mul]; exact S1)⟩
                case round =>
                  clear S1
                  obtain ⟨j, hj, rfl, S⟩ := hrel
                  obtain ⟨_, _, ch⟩ := HD0.out _ S.out.hd
                  by_cases hjl : j < n2 i
                  · obtain ⟨b, rfl⟩ := hb2 (by omega)
                    obtain ⟨u0, x0⟩ := S.out.f2.cell hlt E2.out (j := j * 5) (by show j * 5 < n2 i * 5; omega)
                    obtain ⟨u1, x1⟩ := S.out.f2.cell hlt E2.out (j := j * 5 + 1) (by show j * 5 + 1 < n2 i * 5; omega)
                    obtain ⟨u2, x2⟩ := S.out.f2.cell hlt E2.out (j := j * 5 + 2) (by show j * 5 + 2 < n2 i * 5; omega)
                    obtain ⟨u3, x3⟩ := S.out.f2.cell hlt E2.out (j := j * 5 + 3) (by show j * 5 + 3 < n2 i * 5; omega)
                    obtain ⟨u4, x4⟩ := S.out.f2.cell hlt E2.out (j := j * 5 + 4) (by show j * 5 + 4 < n2 i * 5; omega)
                    have kz := S.out.f2.frozen hlt E2.out
                    have S2 := Lib.hid (S.out.put2 hlt E2.out hjl)
                    clear S
                    have i1 : (i : Int) < (T : Int) := by omega
                    have i2 : (j : Int) < (n2 i : Int) := by omega
                    go_wp2_with fail
                    go_roundw
                    case rel => exact ⟨j + 1, by omega, by go_num, S2⟩
                    case measure => first | (simp [intOf]; done) | (simp [intOf]; omega)
                  · obtain rfl : j = n2 i := by omega
                    have S1 := Lib.hid (S.out.done2 hlt)
                    clear S
                    have i1 : (i : Int) < (T : Int) := by omega
                    go_wp2_with fail
                    clear ch
                    go_roundw
                    case rel => exact ⟨i + 1, by omega, by go_num, S1⟩
                    case measure => first | (simp [intOf]; done) | (simp [intOf]; omega)
    · obtain rfl : T = i := by omega
      have S1 := Lib.hid (M2.start (W0 := fun _ => .bool false) (W1 := fun _ => .bool false) (W2 := fun _ => .bool false) (B0 := fun _ => 0) (B1 := fun _ => 0) (B2 := fun _ => 0) S.out hs)
      clear S
      go_upto_region 20 with fail
      have SB : Hid (∃ W0 W1 W2 B0 B1 B2, M2 (AE.mk T A C V0 V1 V2 n0 n1 n2 m H s1) w wr 0 (.slice none 0 0) (.slice none 0 0) (.slice none 0 0) W0 W1 W2 B0 B1 B2) := ⟨_, _, _, _, _, _, S1.out⟩
      clear S1
      go_loopw [9, 10, 11, 12] (fun r0 r1 r2 iv wx => ∃ i : Nat, i ≤ T ∧ iv = .int .i64 (i : Int) ∧ Hid (∃ W0 W1 W2 B0 B1 B2, M2 (AE.mk T A C V0 V1 V2 n0 n1 n2 m H s1) w wx i r0 r1 r2 W0 W1 W2 B0 B1 B2)) (fun _ _ _ iv _ => T - (intOf iv).toNat)
      case atStart => exact ⟨0, by omega, rfl, SB⟩
      case round =>
        clear SB
        obtain ⟨i, hi, rfl, HR⟩ := hrel
        by_cases hlt : i < T
        · as_aux_lemma =>
            obtain ⟨A0, c0, e0, k00, k01, _⟩ := SH0.out i hlt
            obtain ⟨A1, c1, e1, k10, k11, _⟩ := SH1.out i hlt
            obtain ⟨A2, c2, e2, k20, k21, _⟩ := SH2.out i hlt
            have hm0 := HN0.out i hlt
            have hm1 := HN1.out i hlt
            have hm2 := HN2.out i hlt
            have PB : Hid (∃ W0 W1 W2 B0 B1 B2, MG (AE.mk T A C V0 V1 V2 n0 n1 n2 m H s1) w wr i 0 0 0 (.slice A0 (n0 i) c0) (.slice A1 (n1 i) c1) (.slice A2 (n2 i) c2) i i i u9 u10 u11 W0 W1 W2 B0 B1 B2) := by
              obtain ⟨W0, W1, W2, B0, B1, B2, S⟩ := HR.out
              have := S.begin hlt
              exact ⟨W0, W1, W2, B0, B1, B2, by rw [← e0, ← e1, ← e2]; exact this⟩
            obtain ⟨W0, W1, W2, B0, B1, B2, S⟩ := HR.out
            obtain ⟨tb, eA, _, _, ch0⟩ := S.hd.ht i hlt
            obtain rfl : A = some ⟨tb, 0, none⟩ := eA
            obtain ⟨cb, eC, _, _, ch1, ch2, _⟩ := S.hd.hc i hlt
            obtain rfl : C = some ⟨cb, 0, none⟩ := eC
            have d0 : wr.cell? ⟨tb, i, none⟩ = some (.slice A0 (n0 i) c0) := ch0.trans (congrArg some e0)
            have d1 : wr.cell? ⟨cb, i * 3, none⟩ = some (.slice A1 (n1 i) c1) := ch1.trans (congrArg some e1)
            have d2 : wr.cell? ⟨cb, i * 3 + 1, none⟩ = some (.slice A2 (n2 i) c2) := ch2.trans (congrArg some e2)
            clear ch0 ch1 ch2 S HR e0 e1 e2
            have i1 : (i : Int) < (T : Int) := by omega
            go_wp2_with fail
            go_loopw [13, 14, 15, 16] (fun g0 g1 g2 jv wx => ∃ t : Nat, t ≤ 60 ∧ jv = .int .i64 (t : Int) ∧ Hid (∃ W0 W1 W2 B0 B1 B2, MG (AE.mk T (some ⟨tb, 0, none⟩) (some ⟨cb, 0, none⟩) V0 V1 V2 n0 n1 n2 m H s1) w wx i t t t g0 g1 g2 i i i u9 u10 u11 W0 W1 W2 B0 B1 B2)) (fun _ _ _ jv _ => 60 - (intOf jv).toNat)
            case atStart => exact ⟨0, by omega, rfl, PB⟩
            case round =>
              clear PB d0 d1 d2
              obtain ⟨t, ht, rfl, HR⟩ := hrel
              obtain ⟨W0, W1, W2, B0, B1, B2, hP⟩ := HR.out
              obtain ⟨Ag0, cg0, rfl, kg0, kh0, hb0⟩ := own_shape hP.f0.gown
              obtain ⟨Ag1, cg1, rfl, kg1, kh1, hb1⟩ := own_shape hP.f1.gown
              obtain ⟨Ag2, cg2, rfl, kg2, kh2, hb2⟩ := own_shape hP.f2.gown
              unfold maxLen at kh0 kh1 kh2
              obtain ⟨j0, hj0, hz0, hs0, hw0⟩ := u8_info
              obtain ⟨j1, hj1, hz1, hs1, hw1⟩ := ins_info
              obtain ⟨j2, hj2, hz2, hs2, hw2⟩ := fn_info
              have HI0 := Lib.hid hj0
              have HZ0 := Lib.hid hz0
              have HS0 := Lib.hid hs0
              have HW0 := Lib.hid hw0
              have HI1 := Lib.hid hj1
              have HZ1 := Lib.hid hz1
              have HS1 := Lib.hid hs1
              have HW1 := Lib.hid hw1
              have HI2 := Lib.hid hj2
              have HZ2 := Lib.hid hz2
              have HS2 := Lib.hid hs2
              have HW2 := Lib.hid hw2
              clear hj0 hz0 hs0 hw0 hj1 hz1 hs1 hw1 hj2 hz2 hs2 hw2 HR
              by_cases htl : t < 60
              · have P0 := Lib.hid hP
                have ON0 : Hid (∀ u ∈ (#[.int .u8 ((i : Int) + 101)] : Array Value).toList, u.oneCell' = true) := by intro u hu; simp at hu; subst hu; rfl
                have ON1 : Hid (∀ u ∈ (#[.int .i64 (-1000000 - (i : Int)), .int .i64 0, .int .i64 0, .int .i64 0, .int .i64 0] : Array Value).toList, u.oneCell' = true) := by intro u hu; simp at hu; rcases hu with rfl | rfl <;> rfl
                have ON2 : Hid (∀ u ∈ (#[.string ⟨#[]⟩, .int .i64 0, .int .i64 (-1000000 - (i : Int)), .int .i64 0, .int .i64 0] : Array Value).toList, u.oneCell' = true) := by intro u hu; simp at hu; rcases hu with rfl | rfl | rfl | rfl <;> rfl
                have NB : Hid (n0 i + t ≤ 10000000 ∧ n1 i + t ≤ 10000000 ∧ n2 i + t ≤ 10000000) := ⟨by omega, by omega, by omega⟩
                clear hP hb0 hb1 hb2
                go_wp2_with (first
                  | (have X3 := P2; at_builtin; go_must (refine wpList_one rfl (.tmp 128) (.tmp 132) 23 rfl H 53 j2 _ 5 48 Try.underlying23 HI2.out HZ2.out HS2.out HW2.out rfl (by omega) (.slice Ag2 (n2 i + t) cg2) (n2 i + t) (cellsOf (val2 n2 i) ((n2 i + t) * 5)) rfl P2.out.f2.gown #[.string ⟨#[]⟩, .int .i64 0, .int .i64 (-1000000 - (i : Int)), .int .i64 0, .int .i64 0] rfl rfl ON2.out NB.out.2.2 (by omega) (Nat.le_trans P2.out.sz.1 P2.out.sz.2) ?_); go_must (intro gg2 k2 w4 hown o hat; have P3 := Lib.hid (P2.out.app2 rfl hown o hat); clear hown o hat P2 X3; simp (config := { maxSteps := 3000000 }) only [Act.put, List.setIfInBounds_toArray, List.set_cons_succ, List.set_cons_zero]))
                  | (have X2 := P1; at_builtin; go_must (refine wpList_one rfl (.tmp 122) (.tmp 126) 22 rfl H 41 j1 _ 5 40 Try.underlying22 HI1.out HZ1.out HS1.out HW1.out rfl (by omega) (.slice Ag1 (n1 i + t) cg1) (n1 i + t) (cellsOf (val1 n1 i) ((n1 i + t) * 5)) rfl P1.out.f1.gown #[.int .i64 (-1000000 - (i : Int)), .int .i64 0, .int .i64 0, .int .i64 0, .int .i64 0] rfl rfl ON1.out NB.out.2.1 (by omega) (Nat.le_trans P1.out.sz.1 P1.out.sz.2) ?_); go_must (intro gg1 k1 w3 hown o hat; have P2 := Lib.hid (P1.out.app1 rfl hown o hat); clear hown o hat P1 X2; simp (config := { maxSteps := 3000000 }) only [Act.put, List.setIfInBounds_toArray, List.set_cons_succ, List.set_cons_zero]))
                  | (have X1 := P0; at_builtin; go_must (refine wpList_one rfl (.tmp 116) (.tmp 120) 28 rfl H 5 j0 _ 1 1 Try.underlying28 HI0.out HZ0.out HS0.out HW0.out rfl (by omega) (.slice Ag0 (n0 i + t) cg0) (n0 i + t) (cellsOf (val0 n0 i) ((n0 i + t) * 1)) rfl P0.out.f0.gown #[.int .u8 ((i : Int) + 101)] rfl rfl ON0.out NB.out.1 (by omega) (Nat.le_trans P0.out.sz.1 P0.out.sz.2) ?_); go_must (intro gg0 k0 w2 hown o hat; have P1 := Lib.hid (P0.out.app0 rfl hown o hat); clear hown o hat P0 X1; simp (config := { maxSteps := 3000000 }) only [Act.put, List.setIfInBounds_toArray, List.set_cons_succ, List.set_cons_zero])))
                go_roundw
                case rel => exact ⟨t + 1, by omega, by go_num, _, _, _, _, _, _, P3.out⟩
                case measure => first | (simp [intOf]; done) | (simp [intOf]; omega)
              · obtain rfl : t = 60 := by omega
                obtain ⟨b0, rfl, _⟩ := hb0 (by omega)
                obtain ⟨b1, rfl, _⟩ := hb1 (by omega)
                obtain ⟨b2, rfl, _⟩ := hb2 (by omega)
                obtain ⟨Ar0, cr0, rfl, _, _, _⟩ := own_shape hP.o0
                obtain ⟨Ar1, cr1, rfl, _, _, _⟩ := own_shape hP.o1
                obtain ⟨Ar2, cr2, rfl, _, _, _⟩ := own_shape hP.o2
                obtain ⟨l0, hl0, lz0, ls0, lw0⟩ := s28_info
                obtain ⟨l1, hl1, lz1, ls1, lw1⟩ := s22_info
                obtain ⟨l2, hl2, lz2, ls2, lw2⟩ := s23_info
                have LI0 := Lib.hid hl0
                have LZ0 := Lib.hid lz0
                have LS0 := Lib.hid ls0
                have LW0 := Lib.hid lw0
                have LI1 := Lib.hid hl1
                have LZ1 := Lib.hid lz1
                have LS1 := Lib.hid ls1
                have LW1 := Lib.hid lw1
                have LI2 := Lib.hid hl2
                have LZ2 := Lib.hid lz2
                have LS2 := Lib.hid ls2
                have LW2 := Lib.hid lw2
                have P0 := Lib.hid hP
                have ON0 : Hid (∀ u ∈ (#[.slice (some ⟨b0, 0, none⟩) (n0 i + 60) cg0] : Array Value).toList, u.oneCell' = true) := by intro u hu; simp at hu; subst hu; rfl
                have ON1 : Hid (∀ u ∈ (#[.slice (some ⟨b1, 0, none⟩) (n1 i + 60) cg1] : Array Value).toList, u.oneCell' = true) := by intro u hu; simp at hu; subst hu; rfl
                have ON2 : Hid (∀ u ∈ (#[.slice (some ⟨b2, 0, none⟩) (n2 i + 60) cg2] : Array Value).toList, u.oneCell' = true) := by intro u hu; simp at hu; subst hu; rfl
                have NB : Hid (i ≤ 10000000) := by show _ ≤ _; omega
                clear hP hl0 lz0 ls0 lw0 hl1 lz1 ls1 lw1 hl2 lz2 ls2 lw2 HI0 HZ0 HS0 HW0 HI1 HZ1 HS1 HW1 HI2 HZ2 HS2 HW2
                go_wp2_with (first
                  | (have X3 := P2; at_builtin; go_must (refine wpList_one rfl (.tmp 142) (.tmp 144) 84 rfl s1 23 l2 _ 1 24 Try.underlying84 LI2.out LZ2.out LS2.out LW2.out rfl (by omega) (.slice Ar2 i cr2) i (cellsOf (updV W2 i (.slice (some ⟨b2, 0, none⟩) (n2 i + 60) cg2)) i) rfl P2.out.o2 #[.slice (some ⟨b2, 0, none⟩) (n2 i + 60) cg2] rfl rfl ON2.out NB.out (by omega) P2.out.sz.2 ?_); go_must (intro gg2 k2 w4 hown o hat; have P3 := Lib.hid (P2.out.push2 (n := 0) hown o hat); clear hown o hat P2 X3; simp (config := { maxSteps := 3000000 }) only [Act.put, List.setIfInBounds_toArray, List.set_cons_succ, List.set_cons_zero]))
                  | (have X2 := P1; at_builtin; go_must (refine wpList_one rfl (.tmp 138) (.tmp 140) 83 rfl s1 22 l1 _ 1 24 Try.underlying83 LI1.out LZ1.out LS1.out LW1.out rfl (by omega) (.slice Ar1 i cr1) i (cellsOf (updV W1 i (.slice (some ⟨b1, 0, none⟩) (n1 i + 60) cg1)) i) rfl P1.out.o1 #[.slice (some ⟨b1, 0, none⟩) (n1 i + 60) cg1] rfl rfl ON1.out NB.out (by omega) P1.out.sz.2 ?_); go_must (intro gg1 k1 w3 hown o hat; have P2 := Lib.hid (P1.out.push1 (n := 0) hown o hat); clear hown o hat P1 X2; simp (config := { maxSteps := 3000000 }) only [Act.put, List.setIfInBounds_toArray, List.set_cons_succ, List.set_cons_zero]))
                  | (have X1 := P0; at_builtin; go_must (refine wpList_one rfl (.tmp 134) (.tmp 136) 33 rfl s1 28 l0 _ 1 24 Try.underlying33 LI0.out LZ0.out LS0.out LW0.out rfl (by omega) (.slice Ar0 i cr0) i (cellsOf (updV W0 i (.slice (some ⟨b0, 0, none⟩) (n0 i + 60) cg0)) i) rfl P0.out.o0 #[.slice (some ⟨b0, 0, none⟩) (n0 i + 60) cg0] rfl rfl ON0.out NB.out (by omega) P0.out.sz.2 ?_); go_must (intro gg0 k0 w2 hown o hat; have P1 := Lib.hid (P0.out.push0 (n := 0) hown o hat); clear hown o hat P0 X1; simp (config := { maxSteps := 3000000 }) only [Act.put, List.setIfInBounds_toArray, List.set_cons_succ, List.set_cons_zero])))
                have SE := Lib.hid P3.out.done
                clear P3
                go_roundw
                case rel => exact ⟨i + 1, by omega, by go_num, _, _, _, _, _, _, SE.out⟩
                case measure => first | (simp [intOf]; done) | (simp [intOf]; omega)
        · obtain rfl : T = i := by omega
          obtain ⟨W0, W1, W2, B0, B1, B2, hS⟩ := HR.out
          have S := Lib.hid hS
          obtain ⟨Ar0, cr0, rfl, kr0, kq0, hf0⟩ := own_shape hS.g3.o0
          obtain ⟨Ar1, cr1, rfl, kr1, kq1, hf1⟩ := own_shape hS.g3.o1
          obtain ⟨Ar2, cr2, rfl, kr2, kq2, hf2⟩ := own_shape hS.g3.o2
          unfold maxLen at kq0 kq1 kq2
          clear HR hS
          go_upto_region 35 with fail
          go_loopw [17] (fun iv wx => ∃ i : Nat, i ≤ T ∧ iv = .int .i64 (i : Int) ∧ Hid (M2 (AE.mk T A C V0 V1 V2 n0 n1 n2 m H s1) w wx T (.slice Ar0 T cr0) (.slice Ar1 T cr1) (.slice Ar2 T cr2) W0 W1 W2 B0 B1 B2)) (fun iv _ => T - (intOf iv).toNat)
          case atStart => exact ⟨0, by omega, rfl, S⟩
          case round =>
            clear S
            obtain ⟨i, hi, rfl, S⟩ := hrel
            by_cases hlt : i < T
            · obtain ⟨A0, c0, e0, k00, k01, hb0⟩ := SH0.out i hlt
              obtain ⟨A1, c1, e1, k10, k11, hb1⟩ := SH1.out i hlt
              obtain ⟨A2, c2, e2, k20, k21, hb2⟩ := SH2.out i hlt
              obtain ⟨f0, rfl, _⟩ := hf0 (by omega)
              obtain ⟨f1, rfl, _⟩ := hf1 (by omega)
              obtain ⟨f2, rfl, _⟩ := hf2 (by omega)
              obtain ⟨tb, eA, -⟩ := S.out.hd.ht i hlt
              obtain rfl : A = some ⟨tb, 0, none⟩ := eA
              obtain ⟨cb, eC, -⟩ := S.out.hd.hc i hlt
              obtain rfl : C = some ⟨cb, 0, none⟩ := eC
              obtain ⟨x0, hx0⟩ := S.out.f0.st i hlt
              obtain ⟨x1, hx1⟩ := S.out.f1.st i hlt
              obtain ⟨x2, hx2⟩ := S.out.f2.st i hlt
              have FACT := Lib.hid (fun wx (h : M2 (AE.mk T (some ⟨tb, 0, none⟩) (some ⟨cb, 0, none⟩) V0 V1 V2 n0 n1 n2 m H s1) w wx T (.slice (some ⟨f0, 0, none⟩) T cr0) (.slice (some ⟨f1, 0, none⟩) T cr1) (.slice (some ⟨f2, 0, none⟩) T cr2) W0 W1 W2 B0 B1 B2) => M2.facts h hlt e0 e1 e2 hx0 hx1 hx2)
              have hm0 := HN0.out i hlt
              have hm1 := HN1.out i hlt
              have hm2 := HN2.out i hlt
              clear e0 e1 e2 hx0 hx1 hx2
              generalize B0 i = g0 at *
              generalize B1 i = g1 at *
              generalize B2 i = g2 at *
              have i1 : (i : Int) < (T : Int) := by omega
              obtain ⟨d0, d1, d2, d3, d4, d5, IN0, GR0, -⟩ := FACT.out wr S.out
              have HIN0 := Lib.hid IN0
              have HGR0 := Lib.hid GR0
              clear IN0 GR0
              go_wp2_with fail
              go_loopw [18] (fun jv wx => ∃ j : Nat, j ≤ n0 i + 60 ∧ jv = .int .i64 (j : Int) ∧ wx = wr) (fun jv _ => n0 i + 60 - (intOf jv).toNat)
              case atStart => exact ⟨0, by omega, rfl, rfl⟩
              case round =>
                obtain ⟨j, hj, rfl, hw⟩ := hrel
                subst hw
                by_cases hjl : j < n0 i + 60
                · as_aux_lemma =>
                    have y0 := HGR0.out j hjl
                    by_cases hin : j < n0 i
                    · obtain ⟨b, rfl⟩ := hb0 (by omega)
                      have y1 := HIN0.out b j rfl hin
                      rw [v0_in hin] at y0 y1
                      clear HIN0 HGR0
                      go_wp2_with fail
                      go_roundw
                      case rel => exact ⟨j + 1, by omega, by go_num, by first | trivial | rfl⟩
                      case measure => first | (simp [intOf]; done) | (simp [intOf]; omega)
                    · rw [v0_out hin] at y0
                      clear HIN0 HGR0
                      go_wp2_with fail
                      go_roundw
                      case rel => exact ⟨j + 1, by omega, by go_num, by first | trivial | rfl⟩
                      case measure => first | (simp [intOf]; done) | (simp [intOf]; omega)
                · have hjE : j = n0 i + 60 := by omega
                  clear HIN0 HGR0
                  go_wp2_with fail
                  have S9 : Hid (M2 (AE.mk T (some ⟨tb, 0, none⟩) (some ⟨cb, 0, none⟩) V0 V1 V2 n0 n1 n2 m H s1) w wr T (.slice (some ⟨f0, 0, none⟩) T cr0) (.slice (some ⟨f1, 0, none⟩) T cr1) (.slice (some ⟨f2, 0, none⟩) T cr2) W0 W1 W2 B0 B1 B2) := S
                  clear d0 d1 d2 d3 d4 d5 S
                  go_loopw [20] (fun jv wx => ∃ j : Nat, j ≤ n1 i + 60 ∧ jv = .int .i64 (j : Int) ∧ Hid (M2 (AE.mk T (some ⟨tb, 0, none⟩) (some ⟨cb, 0, none⟩) V0 V1 V2 n0 n1 n2 m H s1) w wx T (.slice (some ⟨f0, 0, none⟩) T cr0) (.slice (some ⟨f1, 0, none⟩) T cr1) (.slice (some ⟨f2, 0, none⟩) T cr2) W0 W1 W2 B0 B1 B2)) (fun jv _ => n1 i + 60 - (intOf jv).toNat)
                  case atStart => exact ⟨0, by omega, rfl, S9⟩
                  case round =>
                    clear S9
                    obtain ⟨j, hj, rfl, S⟩ := hrel
                    obtain ⟨d0, d1, d2, d3, d4, d5, -⟩ := FACT.out wr S.out
                    by_cases hjl : j < n1 i + 60
                    · have S5 := Lib.hid (S.out.on ((Below.refl wr.heap.size wr).alloc (Nat.le_refl _) (.cells #[.int .i64 (-1 - (i : Int)), .int .i64 0, .int .i64 0, .int .i64 0, .int .i64 (j : Int)] 41)))
                      have BX := Blk.new wr 41 #[.int .i64 (-1 - (i : Int)), .int .i64 0, .int .i64 0, .int .i64 0, .int .i64 (j : Int)]
                      clear S
                      by_cases hin : j < n1 i
                      · as_aux_lemma =>
                          go_upto_region 48 with fail
                          generalize wr.alloc (.cells #[.int .i64 (-1 - (i : Int)), .int .i64 0, .int .i64 0, .int .i64 0, .int .i64 (j : Int)] 41) = w5 at *
                          generalize wr.heap.size = gx at *
                          clear d0 d1 d2 d3 d4 d5
                          obtain ⟨d0, d1, d2, d3, d4, d5, -, -, IN1, GR1, -, -⟩ := FACT.out w5 S5.out
                          obtain ⟨b, rfl⟩ := hb1 (by omega)
                          obtain ⟨v0, v1, v2, v3, v4⟩ := v1_in hin
                          have a0 := (IN1 b (j * 5) rfl (by omega)).trans (congrArg some v0)
                          have a1 := (IN1 b (j * 5 + 1) rfl (by omega)).trans (congrArg some v1)
                          have a2 := (IN1 b (j * 5 + 2) rfl (by omega)).trans (congrArg some v2)
                          have a3 := (IN1 b (j * 5 + 3) rfl (by omega)).trans (congrArg some v3)
                          have a4 := (IN1 b (j * 5 + 4) rfl (by omega)).trans (congrArg some v4)
                          have q0 := (GR1 (j * 5) (by omega)).trans (congrArg some v0)
                          have q1 := (GR1 (j * 5 + 1) (by omega)).trans (congrArg some v1)
                          have q2 := (GR1 (j * 5 + 2) (by omega)).trans (congrArg some v2)
                          have q3 := (GR1 (j * 5 + 3) (by omega)).trans (congrArg some v3)
                          have q4 := (GR1 (j * 5 + 4) (by omega)).trans (congrArg some v4)
                          have z0 : w5.cell? ⟨gx, 0, none⟩ = some (.int .i64 (-1 - (i : Int))) := BX.cell 0
                          have z1 : w5.cell? ⟨gx, 1, none⟩ = some (.int .i64 0) := BX.cell 1
                          have z2 : w5.cell? ⟨gx, 2, none⟩ = some (.int .i64 0) := BX.cell 2
                          have z3 : w5.cell? ⟨gx, 3, none⟩ = some (.int .i64 0) := BX.cell 3
                          have z4 : w5.cell? ⟨gx, 4, none⟩ = some (.int .i64 (j : Int)) := BX.cell 4
                          have i2 : (j : Int) < (n1 i : Int) := by omega
                          have i3 : (j : Int) < ((n1 i + 60 : Nat) : Int) := by omega
                          have i4 : (0 : Int) ≤ (i : Int) := by omega
                          have i5 : (0 : Int) ≤ (j : Int) := by omega
                          clear IN1 GR1 v0 v1 v2 v3 v4 BX FACT
                          have S6 : Hid (∀ k, M2 (AE.mk T (some ⟨tb, 0, none⟩) (some ⟨cb, 0, none⟩) V0 V1 V2 n0 n1 n2 m H s1) w (w5.drewN k) T (.slice (some ⟨f0, 0, none⟩) T cr0) (.slice (some ⟨f1, 0, none⟩) T cr1) (.slice (some ⟨f2, 0, none⟩) T cr2) W0 W1 W2 B0 B1 B2) := fun k => S5.out.on (((Only.refl (fun _ => False) w5).drewN k).toBelow (Nat.le_refl _) (fun _ _ h => h))
                          clear S5
                          as_aux_lemma =>
                            go_quiet (fail)
                            go_wp2_with fail
                            go_roundw
                            case rel => exact ⟨j + 1, by omega, by go_num, S6.out _⟩
                            case measure => first | (simp [intOf]; done) | (simp [intOf]; omega)
                      · as_aux_lemma =>
                          go_upto_region 48 with fail
                          generalize wr.alloc (.cells #[.int .i64 (-1 - (i : Int)), .int .i64 0, .int .i64 0, .int .i64 0, .int .i64 (j : Int)] 41) = w5 at *
                          generalize wr.heap.size = gx at *
                          clear d0 d1 d2 d3 d4 d5
                          obtain ⟨d0, d1, d2, d3, d4, d5, -, -, -, GR1, -, -⟩ := FACT.out w5 S5.out
                          have q0 := (GR1 (j * 5) (by omega)).trans (congrArg some (v1_out hin))
                          have i3 : (j : Int) < ((n1 i + 60 : Nat) : Int) := by omega
                          have i4 : (0 : Int) ≤ (i : Int) := by omega
                          have i5 : (0 : Int) ≤ (j : Int) := by omega
                          have i6 : decide ((j : Int) < (n1 i : Int)) = false := decide_eq_false (by omega)
                          clear GR1 BX FACT
                          have S6 : Hid (∀ k, M2 (AE.mk T (some ⟨tb, 0, none⟩) (some ⟨cb, 0, none⟩) V0 V1 V2 n0 n1 n2 m H s1) w (w5.drewN k) T (.slice (some ⟨f0, 0, none⟩) T cr0) (.slice (some ⟨f1, 0, none⟩) T cr1) (.slice (some ⟨f2, 0, none⟩) T cr2) W0 W1 W2 B0 B1 B2) := fun k => S5.out.on (((Only.refl (fun _ => False) w5).drewN k).toBelow (Nat.le_refl _) (fun _ _ h => h))
                          clear S5
                          as_aux_lemma =>
                            go_quiet (fail)
                            go_wp2_with fail
                            go_roundw
                            case rel => exact ⟨j + 1, by omega, by go_num, S6.out _⟩
                            case measure => first | (simp [intOf]; done) | (simp [intOf]; omega)
                    · have hjE : j = n1 i + 60 := by omega
                      go_wp2_with fail
                      have S9 := S
                      clear d0 d1 d2 d3 d4 d5 S
                      go_loopw [23] (fun jv wx => ∃ j : Nat, j ≤ n2 i + 60 ∧ jv = .int .i64 (j : Int) ∧ Hid (M2 (AE.mk T (some ⟨tb, 0, none⟩) (some ⟨cb, 0, none⟩) V0 V1 V2 n0 n1 n2 m H s1) w wx T (.slice (some ⟨f0, 0, none⟩) T cr0) (.slice (some ⟨f1, 0, none⟩) T cr1) (.slice (some ⟨f2, 0, none⟩) T cr2) W0 W1 W2 B0 B1 B2)) (fun jv _ => n2 i + 60 - (intOf jv).toNat)
                      case atStart => exact ⟨0, by omega, rfl, S9⟩
                      case round =>
                        clear S9
                        obtain ⟨j, hj, rfl, S⟩ := hrel
                        obtain ⟨d0, d1, d2, d3, d4, d5, -⟩ := FACT.out wr S.out
                        by_cases hjl : j < n2 i + 60
                        · have S5 := Lib.hid (S.out.on ((Below.refl wr.heap.size wr).alloc (Nat.le_refl _) (.cells #[.string ⟨#[]⟩, .int .i64 0, .int .i64 (-1 - (i : Int)), .int .i64 (j : Int), .int .i64 0] 53)))
                          have BX := Blk.new wr 53 #[.string ⟨#[]⟩, .int .i64 0, .int .i64 (-1 - (i : Int)), .int .i64 (j : Int), .int .i64 0]
                          clear S
                          by_cases hin : j < n2 i
                          · as_aux_lemma =>
                              go_upto_region 55 with fail
                              generalize wr.alloc (.cells #[.string ⟨#[]⟩, .int .i64 0, .int .i64 (-1 - (i : Int)), .int .i64 (j : Int), .int .i64 0] 53) = w5 at *
                              generalize wr.heap.size = gx at *
                              clear d0 d1 d2 d3 d4 d5
                              obtain ⟨d0, d1, d2, d3, d4, d5, -, -, -, -, IN1, GR1⟩ := FACT.out w5 S5.out
                              obtain ⟨b, rfl⟩ := hb2 (by omega)
                              obtain ⟨v0, v1, v2, v3, v4⟩ := v2_in hin
                              have a0 := (IN1 b (j * 5) rfl (by omega)).trans (congrArg some v0)
                              have a1 := (IN1 b (j * 5 + 1) rfl (by omega)).trans (congrArg some v1)
                              have a2 := (IN1 b (j * 5 + 2) rfl (by omega)).trans (congrArg some v2)
                              have a3 := (IN1 b (j * 5 + 3) rfl (by omega)).trans (congrArg some v3)
                              have a4 := (IN1 b (j * 5 + 4) rfl (by omega)).trans (congrArg some v4)
                              have q0 := (GR1 (j * 5) (by omega)).trans (congrArg some v0)
                              have q1 := (GR1 (j * 5 + 1) (by omega)).trans (congrArg some v1)
                              have q2 := (GR1 (j * 5 + 2) (by omega)).trans (congrArg some v2)
                              have q3 := (GR1 (j * 5 + 3) (by omega)).trans (congrArg some v3)
                              have q4 := (GR1 (j * 5 + 4) (by omega)).trans (congrArg some v4)
                              have z0 : w5.cell? ⟨gx, 0, none⟩ = some (.string ⟨#[]⟩) := BX.cell 0
                              have z1 : w5.cell? ⟨gx, 1, none⟩ = some (.int .i64 0) := BX.cell 1
                              have z2 : w5.cell? ⟨gx, 2, none⟩ = some (.int .i64 (-1 - (i : Int))) := BX.cell 2
                              have z3 : w5.cell? ⟨gx, 3, none⟩ = some (.int .i64 (j : Int)) := BX.cell 3
                              have z4 : w5.cell? ⟨gx, 4, none⟩ = some (.int .i64 0) := BX.cell 4
                              have i2 : (j : Int) < (n2 i : Int) := by omega
                              have i3 : (j : Int) < ((n2 i + 60 : Nat) : Int) := by omega
                              have i4 : (0 : Int) ≤ (i : Int) := by omega
                              have i5 : (0 : Int) ≤ (j : Int) := by omega
                              clear IN1 GR1 v0 v1 v2 v3 v4 BX FACT
                              have S6 : Hid (∀ k, M2 (AE.mk T (some ⟨tb, 0, none⟩) (some ⟨cb, 0, none⟩) V0 V1 V2 n0 n1 n2 m H s1) w (w5.drewN k) T (.slice (some ⟨f0, 0, none⟩) T cr0) (.slice (some ⟨f1, 0, none⟩) T cr1) (.slice (some ⟨f2, 0, none⟩) T cr2) W0 W1 W2 B0 B1 B2) := fun k => S5.out.on (((Only.refl (fun _ => False) w5).drewN k).toBelow (Nat.le_refl _) (fun _ _ h => h))
                              clear S5
                              as_aux_lemma =>
                                go_quiet (fail)
                                go_wp2_with fail
                                go_roundw
                                case rel => exact ⟨j + 1, by omega, by go_num, S6.out _⟩
                                case measure => first | (simp [intOf]; done) | (simp [intOf]; omega)
                          · as_aux_lemma =>
                              go_upto_region 55 with fail
                              generalize wr.alloc (.cells #[.string ⟨#[]⟩, .int .i64 0, .int .i64 (-1 - (i : Int)), .int .i64 (j : Int), .int .i64 0] 53) = w5 at *
                              generalize wr.heap.size = gx at *
                              clear d0 d1 d2 d3 d4 d5
                              obtain ⟨d0, d1, d2, d3, d4, d5, -, -, -, -, -, GR1⟩ := FACT.out w5 S5.out
                              have q0 := (GR1 (j * 5 + 2) (by omega)).trans (congrArg some (v2_out hin))
                              have i3 : (j : Int) < ((n2 i + 60 : Nat) : Int) := by omega
                              have i4 : (0 : Int) ≤ (i : Int) := by omega
                              have i5 : (0 : Int) ≤ (j : Int) := by omega
                              have i6 : decide ((j : Int) < (n2 i : Int)) = false := decide_eq_false (by omega)
                              clear GR1 BX FACT
                              have S6 : Hid (∀ k, M2 (AE.mk T (some ⟨tb, 0, none⟩) (some ⟨cb, 0, none⟩) V0 V1 V2 n0 n1 n2 m H s1) w (w5.drewN k) T (.slice (some ⟨f0, 0, none⟩) T cr0) (.slice (some ⟨f1, 0, none⟩) T cr1) (.slice (some ⟨f2, 0, none⟩) T cr2) W0 W1 W2 B0 B1 B2) := fun k => S5.out.on (((Only.refl (fun _ => False) w5).drewN k).toBelow (Nat.le_refl _) (fun _ _ h => h))
                              clear S5
                              as_aux_lemma =>
                                go_quiet (fail)
                                go_wp2_with fail
                                go_roundw
                                case rel => exact ⟨j + 1, by omega, by go_num, S6.out _⟩
                                case measure => first | (simp [intOf]; done) | (simp [intOf]; omega)
                        · have hjE2 : j = n2 i + 60 := by omega
                          clear FACT
                          go_wp2_with fail
                          go_roundw
                          case rel => exact ⟨i + 1, by omega, by go_num, S⟩
                          case measure => first | (simp [intOf]; done) | (simp [intOf]; omega)
            · go_wp2_with fail
              go_ret
              exact ⟨rfl, S.out.below⟩
end Go.Proofs.Ytafhjpehkfcmjaa
