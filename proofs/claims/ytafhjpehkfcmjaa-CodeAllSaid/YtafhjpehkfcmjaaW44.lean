/- CodePlaces: the walk. -/
import Derived.Test.YtafhjpehkfcmjaaW43
import Derived.Test.YtafhjpehkfcmjaaAp
set_option linter.unusedVariables false
set_option linter.unusedSimpArgs false
namespace Go.Proofs.Ytafhjpehkfcmjaa
open Go.RowKit
attribute [local go_sem ↓] Go.wp_at_zero Go.wp_at_succ
/-- Two rows of bytes that came in. -/
structure PB (w wr : World) (A : Option Addr) (L : Nat) (Bf : Nat → UInt8) (A2 : Option Addr) (L2 : Nat) (Bf2 : Nat → UInt8) : Prop where
  b1 : BL wr (fun b => b < w.heap.size) A L Bf
  b2 : BL wr (fun b => b < w.heap.size) A2 L2 Bf2
  below : Below w.heap.size w wr
theorem below_gt {w w2 : World} {H : Nat} (hb : Below H w w2) : Only (fun b => H ≤ b) w w2 := ⟨hb.os, hb.tape, hb.output, hb.size, fun k hk hn => hb.block k (by omega)⟩
section
variable {w wr w2 : World} {A A2 : Option Addr} {L L2 : Nat} {Bf Bf2 : Nat → UInt8}
theorem PB.at_ (h : PB w wr A L Bf A2 L2 Bf2) (hb : Below w.heap.size wr w2) : PB w w2 A L Bf A2 L2 Bf2 :=
  ⟨h.b1.only (below_gt hb) (fun b _ hb h => by omega), h.b2.only (below_gt hb) (fun b _ hb h => by omega), h.below.trans hb⟩
theorem PB.on (h : PB w wr A L Bf A2 L2 Bf2) (hb : Below wr.heap.size wr w2) : PB w w2 A L Bf A2 L2 Bf2 := h.at_ (hb.mono h.below.size)
theorem PB.box (h : PB w wr A L Bf A2 L2 Bf2) (o : Obj) : PB w (wr.alloc o) A L Bf A2 L2 Bf2 := h.on ((Below.refl _ wr).alloc (Nat.le_refl _) o)
theorem PB.lt1 (h : PB w wr A L Bf A2 L2 Bf2) {k : Nat} (hk : k ≤ L) : BL wr (fun b => b < wr.heap.size) A k Bf := (h.b1.less hk).now
theorem BR.own_below {w w' : World} {H : Nat} {v : Value} {l : List UInt8} (h : BR w H v l) (hH : H ≤ w.heap.size) (o : Only (fun b => v.ownBlock = some b) w w') : Below H w w' := o.toBelow hH fun k hk e => by have := (h.lt e).1; omega
theorem BR.nil (w : World) (H : Nat) : BR w H (.slice none 0 0) [] := own_nil w H 5 1
theorem lst_slc (B : Nat → UInt8) (n : Nat) (m : List UInt8) (i : Nat) (hi : i < n) : lstF (slc B 0 n ++ m) i = B i := by
  unfold lstF
  rw [List.getD_eq_getElem?_getD, List.getElem?_append_left (by rw [slc_length]; exact hi)]
  simp [slc, hi]
end
theorem and_mask (n : Int) : ∃ z : Nat, bits BinOp.and IntKind.i64 n 65535 = (z : Int) ∧ z ≤ 65535 := by
  have hz : (BitVec.ofInt 64 n &&& 65535#64).toNat ≤ 65535 := by
    rw [BitVec.toNat_and]
    exact Nat.le_trans Nat.and_le_right (by decide)
  refine ⟨(BitVec.ofInt 64 n &&& 65535#64).toNat, ?_, hz⟩
  show IntKind.i64.wrap (((BitVec.ofInt 64 n &&& 65535#64).toNat : Nat) : Int) = _
  exact wrap_i64 ⟨by omega, by omega⟩
set_option maxRecDepth 100000 in
set_option maxHeartbeats 16000000 in
theorem places_c (w : World) (G G2 : Nat → Prop) (A : Option Addr) (L c : Nat) (Bf : Nat → UInt8) (hB : BL w G A L Bf) (hc : L ≤ c) (hc2 : c ≤ 9223372036854775807) (n : Int)
    (A2 : Option Addr) (L2 c2 : Nat) (Bf2 : Nat → UInt8) (hB2 : BL w G2 A2 L2 Bf2) (hc' : L2 ≤ c2) (hc2' : c2 ≤ 9223372036854775807) (hr1 : L ≤ 140737488351232) (hr2 : L2 ≤ 140737488351232) :
    Calls Try.prog 10 #[.slice A L c, .int .i64 n, .slice A2 L2 c2] w fun e w' => e = .returned (.bool true) ∧ Below w.heap.size w w' := by
  obtain ⟨z, hz, hz2⟩ := and_mask n
  by_cases hsum : L + L2 ≤ 65536
  case neg =>
    have hd : decide (65536 < (L : Int) + (L2 : Int)) = true := decide_eq_true (by omega)
    have hB0 := Below.refl w.heap.size w
    clear hB hB2
    go_enter Try.func10, Try.ntmps10
    go_wp2_with fail
    go_ret
    exact ⟨rfl, hB0⟩
  have S0 : Hid (PB w w A L Bf A2 L2 Bf2) := ⟨hB.now, hB2.now, Below.refl _ _⟩
  clear hB hB2
  go_enter Try.func10, Try.ntmps10
  go_wp2_with fail
  refine (alive_c w).mono ?_
  rintro e w1 ⟨rfl, hb1⟩
  have S1 := Lib.hid (S0.out.on hb1)
  clear hb1 S0
  go_wp2_with fail
  refine (read_c w1 _ (fun b h => h) A L c Bf (S1.out.lt1 (Nat.le_refl _)) (by omega) hc hc2).mono ?_
  rintro e w2 ⟨hb2, ⟨h, _⟩ | ⟨_, q, hq, rfl⟩ | ⟨_, cd, iv, fv, hq, rfl, hi, hf⟩⟩
  · omega
  · have hq2 := (run_bad_le pAll 0 (Nat.zero_le _) hq).2
    have S3 := Lib.hid ((S1.out.on hb2).box (.cells #[.slice none 0 0, .slice none 0 0, .int .i64 0] 25))
    have HQ := Lib.hid hq
    clear hb2 S1 hq
    unfold zeroC
    by_cases hqL : q < L
    · go_upto_region 13 with (go_at_call 22; refine (num_d _ _).mono ?_; rintro e w9 ⟨rfl, rfl⟩)
      generalize w2.alloc (.cells #[.slice none 0 0, .slice none 0 0, .int .i64 0] 25) = w3 at *
      go_wp2_with (go_at_call 22; refine (num_d _ _).mono ?_; rintro e w9 ⟨rfl, rfl⟩)
      refine (read_c w3 _ (fun b h => h) A q c Bf (S3.out.lt1 (by omega)) (by omega) (by omega) hc2).mono ?_
      rintro e w4 ⟨hb4, ⟨h, _⟩ | ⟨_, q4, hq4, rfl⟩ | ⟨_, cd, iv, fv, hq4, rfl, hi, hf⟩⟩
      · omega
      · have e4 : q = q4 := by
          rcases run_cut pAll 0 Sm_all (Nat.zero_le _) HQ.out hqL with h | ⟨c', h⟩
          · rw [hq4] at h; injection h with h; exact h.symm
          · rw [hq4] at h; cases h
        subst e4
        have S4 := Lib.hid ((S3.out.on hb4).box (.cells #[.slice none 0 0, .slice none 0 0, .int .i64 0] 25))
        clear hb4 hq4 S3
        unfold zeroC
        go_upto_region 14 with (go_at_call 22; refine (num_d _ _).mono ?_; rintro e w9 ⟨rfl, rfl⟩)
        generalize w4.alloc (.cells #[.slice none 0 0, .slice none 0 0, .int .i64 0] 25) = w4b at *
        have HN0 : Hid (([] : List UInt8).length + L = L) := Nat.zero_add L
        have HN1 : Hid (([] ++ slc Bf 0 L).length + L2 = L + L2) := by show _ = _; rw [List.nil_append, slc_length]
        have HN2 : Hid (L ≤ 1000000000 ∧ L + L2 ≤ 1000000000) := ⟨by omega, by omega⟩
        go_wp2_with (first
          | (have X5 := V5; at_builtin; go_must (refine wpList_bytes rfl (.tmp 72) (.tmp 73) rfl rfl X5.out S5.out.below.size rfl S5.out.b2 (L + L2) HN1.out HN2.out.2 ?_); go_must (intro A6 cap6 w6 hv6 ho6 _; have S6 := Lib.hid (S5.out.at_ (V5.out.own_below S5.out.below.size ho6)); have V6 := Lib.hid hv6; clear hv6 ho6 V5 S5))
          | (at_builtin; go_must (refine wpList_bytes rfl (.const (.slice none 0 0)) (.tmp 71) rfl rfl (BR.nil _ w.heap.size) S4.out.below.size rfl S4.out.b1 L HN0.out HN2.out.1 ?_); go_must (intro A5 cap5 w5 hv5 ho5 _; have S5 := Lib.hid (S4.out.on ho5.nil); have V5 := Lib.hid hv5; clear hv5 ho5 S4)))
        obtain ⟨A6', cap6', e6, k1, k2, _⟩ := own_shape V6.out
        injection e6 with e6 _ e6'
        subst e6 e6'
        have hbl := V6.out.bl
        rw [List.nil_append] at hbl
        have hll : (slc Bf 0 L ++ slc Bf2 0 L2).length = L + L2 := by rw [List.length_append, slc_length, slc_length]
        rw [hll] at hbl
        clear V6
        have V6 := Lib.hid hbl
        unfold maxLen at k2
        have HLS := Lib.hid (lst_slc Bf L (slc Bf2 0 L2))
        clear hbl hll HN0 HN1 HN2
        generalize slc Bf 0 L ++ slc Bf2 0 L2 = ll at *
        refine (read_c w6 _ (fun b h => h) A6 (L + L2) cap6 (lstF ll) V6.out (by omega) (by omega) (by omega)).mono ?_
        rintro e w7 ⟨hb7, ⟨h, _⟩ | ⟨_, q7, hq7, rfl⟩ | ⟨_, cd, iv, fv, hq7, rfl, hi, hf⟩⟩
        · omega
        · have e7 : q = q7 := by
            have h := run_more (B' := lstF ll) (L' := L + L2) (by omega) (fun i hi => (HLS.out i hi).symm) pAll 0 (Nat.zero_le _) HQ.out hqL
            rw [hq7] at h; injection h with h; exact h.symm
          subst e7
          have B7 := Lib.hid ((S6.out.on hb7).box (.cells #[.slice none 0 0, .slice none 0 0, .int .i64 0] 25)).below
          clear hb7 hq7 S6 V6 HLS HQ
          unfold zeroC
          go_wp2_with (go_at_call 22; refine (num_d _ _).mono ?_; rintro e w9 ⟨rfl, rfl⟩)
          go_ret
          exact ⟨rfl, B7.out⟩
        · have h := run_more (B' := lstF ll) (L' := L + L2) (by omega) (fun i hi => (HLS.out i hi).symm) pAll 0 (Nat.zero_le _) HQ.out hqL
          rw [hq7] at h; cases h
      · have S4 := Lib.hid ((S3.out.on hb4).box (.cells #[iv, fv, .int .i64 (cd.main : Int)] 25))
        obtain ⟨A8, c8, rfl, _⟩ := own_shape hi
        obtain ⟨A9, c9, rfl, _⟩ := own_shape hf
        clear hb4 hq4 S3 hi hf
        go_upto_region 14 with (go_at_call 22; refine (num_d _ _).mono ?_; rintro e w9 ⟨rfl, rfl⟩)
        generalize w4.alloc (.cells #[.slice A8 cd.ins.length c8, .slice A9 cd.fns.length c9, .int .i64 (cd.main : Int)] 25) = w4b at *
        have HN0 : Hid (([] : List UInt8).length + L = L) := Nat.zero_add L
        have HN1 : Hid (([] ++ slc Bf 0 L).length + L2 = L + L2) := by show _ = _; rw [List.nil_append, slc_length]
        have HN2 : Hid (L ≤ 1000000000 ∧ L + L2 ≤ 1000000000) := ⟨by omega, by omega⟩
        go_wp2_with (first
          | (have X5 := V5; at_builtin; go_must (refine wpList_bytes rfl (.tmp 72) (.tmp 73) rfl rfl X5.out S5.out.below.size rfl S5.out.b2 (L + L2) HN1.out HN2.out.2 ?_); go_must (intro A6 cap6 w6 hv6 ho6 _; have S6 := Lib.hid (S5.out.at_ (V5.out.own_below S5.out.below.size ho6)); have V6 := Lib.hid hv6; clear hv6 ho6 V5 S5))
          | (at_builtin; go_must (refine wpList_bytes rfl (.const (.slice none 0 0)) (.tmp 71) rfl rfl (BR.nil _ w.heap.size) S4.out.below.size rfl S4.out.b1 L HN0.out HN2.out.1 ?_); go_must (intro A5 cap5 w5 hv5 ho5 _; have S5 := Lib.hid (S4.out.on ho5.nil); have V5 := Lib.hid hv5; clear hv5 ho5 S4)))
        obtain ⟨A6', cap6', e6, k1, k2, _⟩ := own_shape V6.out
        injection e6 with e6 _ e6'
        subst e6 e6'
        have hbl := V6.out.bl
        rw [List.nil_append] at hbl
        have hll : (slc Bf 0 L ++ slc Bf2 0 L2).length = L + L2 := by rw [List.length_append, slc_length, slc_length]
        rw [hll] at hbl
        clear V6
        have V6 := Lib.hid hbl
        unfold maxLen at k2
        have HLS := Lib.hid (lst_slc Bf L (slc Bf2 0 L2))
        clear hbl hll HN0 HN1 HN2
        generalize slc Bf 0 L ++ slc Bf2 0 L2 = ll at *
        refine (read_c w6 _ (fun b h => h) A6 (L + L2) cap6 (lstF ll) V6.out (by omega) (by omega) (by omega)).mono ?_
        rintro e w7 ⟨hb7, ⟨h, _⟩ | ⟨_, q7, hq7, rfl⟩ | ⟨_, cd, iv, fv, hq7, rfl, hi, hf⟩⟩
        · omega
        · have e7 : q = q7 := by
            have h := run_more (B' := lstF ll) (L' := L + L2) (by omega) (fun i hi => (HLS.out i hi).symm) pAll 0 (Nat.zero_le _) HQ.out hqL
            rw [hq7] at h; injection h with h; exact h.symm
          subst e7
          have B7 := Lib.hid ((S6.out.on hb7).box (.cells #[.slice none 0 0, .slice none 0 0, .int .i64 0] 25)).below
          clear hb7 hq7 S6 V6 HLS HQ
          unfold zeroC
          go_wp2_with (go_at_call 22; refine (num_d _ _).mono ?_; rintro e w9 ⟨rfl, rfl⟩)
          go_ret
          exact ⟨rfl, B7.out⟩
        · have h := run_more (B' := lstF ll) (L' := L + L2) (by omega) (fun i hi => (HLS.out i hi).symm) pAll 0 (Nat.zero_le _) HQ.out hqL
          rw [hq7] at h; cases h
    · obtain rfl : q = L := by omega
      go_upto_region 20 with (go_at_call 22; refine (num_d _ _).mono ?_; rintro e w9 ⟨rfl, rfl⟩)
      generalize w2.alloc (.cells #[.slice none 0 0, .slice none 0 0, .int .i64 0] 25) = w3 at *
      have SH : Hid (∀ t, t < q → run Bf t pAll 0 = .bad t) := Lib.hid (fun t ht => run_short ht pAll 0 Sm_all (Nat.zero_le _) (.inl HQ.out))
      go_upto_region 21 with (go_at_call 22; refine (num_d _ _).mono ?_; rintro e w9 ⟨rfl, rfl⟩)
      try rw [hz]
      by_cases hcut : z < q
      · go_wp2_with (go_at_call 22; refine (num_d _ _).mono ?_; rintro e w9 ⟨rfl, rfl⟩)
        refine (read_c w3 _ (fun b h => h) A z c Bf (S3.out.lt1 (by omega)) (by omega) (by omega) hc2).mono ?_
        rintro e w7 ⟨hb7, ⟨h, _⟩ | ⟨_, q7, hq7, rfl⟩ | ⟨_, cd, iv, fv, hq7, rfl, _, _⟩⟩
        · omega
        · rw [SH.out z hcut] at hq7
          obtain rfl : z = q7 := by injection hq7
          have B7 := Lib.hid ((S3.out.on hb7).box (.cells #[.slice none 0 0, .slice none 0 0, .int .i64 0] 25)).below
          clear hb7 S3 SH
          unfold zeroC
          go_wp2_with (go_at_call 22; refine (num_d _ _).mono ?_; rintro e w9 ⟨rfl, rfl⟩)
          go_ret
          exact ⟨rfl, B7.out⟩
        · rw [SH.out z hcut] at hq7; cases hq7
      · go_wp2_with (go_at_call 22; refine (num_d _ _).mono ?_; rintro e w9 ⟨rfl, rfl⟩)
        go_ret
        exact ⟨rfl, S3.out.below⟩
  · obtain ⟨A8, c8, rfl, _⟩ := own_shape hi
    obtain ⟨A9, c9, rfl, _⟩ := own_shape hf
    have S3 := Lib.hid ((S1.out.on hb2).box (.cells #[.slice A8 cd.ins.length c8, .slice A9 cd.fns.length c9, .int .i64 (cd.main : Int)] 25))
    have HQ := Lib.hid hq
    clear hb2 S1 hq hi hf
    by_cases hmore : 0 < L2
    · go_upto_region 17 with (go_at_call 22; refine (num_d _ _).mono ?_; rintro e w9 ⟨rfl, rfl⟩)
      generalize w2.alloc (.cells #[.slice A8 cd.ins.length c8, .slice A9 cd.fns.length c9, .int .i64 (cd.main : Int)] 25) = w3 at *
      have HN0 : Hid (([] : List UInt8).length + L = L) := Nat.zero_add L
      have HN1 : Hid (([] ++ slc Bf 0 L).length + L2 = L + L2) := by show _ = _; rw [List.nil_append, slc_length]
      have HN2 : Hid (L ≤ 1000000000 ∧ L + L2 ≤ 1000000000) := ⟨by omega, by omega⟩
      go_wp2_with (first
        | (have X5 := V5; at_builtin; go_must (refine wpList_bytes rfl (.tmp 116) (.tmp 117) rfl rfl X5.out S5.out.below.size rfl S5.out.b2 (L + L2) HN1.out HN2.out.2 ?_); go_must (intro A6 cap6 w6 hv6 ho6 _; have S6 := Lib.hid (S5.out.at_ (V5.out.own_below S5.out.below.size ho6)); have V6 := Lib.hid hv6; clear hv6 ho6 V5 S5))
        | (at_builtin; go_must (refine wpList_bytes rfl (.const (.slice none 0 0)) (.tmp 115) rfl rfl (BR.nil _ w.heap.size) S3.out.below.size rfl S3.out.b1 L HN0.out HN2.out.1 ?_); go_must (intro A5 cap5 w5 hv5 ho5 _; have S5 := Lib.hid (S3.out.on ho5.nil); have V5 := Lib.hid hv5; clear hv5 ho5 S3)))
      obtain ⟨A6', cap6', e6, k1, k2, _⟩ := own_shape V6.out
      injection e6 with e6 _ e6'
      subst e6 e6'
      have hbl := V6.out.bl
      rw [List.nil_append] at hbl
      have hll : (slc Bf 0 L ++ slc Bf2 0 L2).length = L + L2 := by rw [List.length_append, slc_length, slc_length]
      rw [hll] at hbl
      clear V6
      have V6 := Lib.hid hbl
      unfold maxLen at k2
      have HLS := Lib.hid (lst_slc Bf L (slc Bf2 0 L2))
      clear hbl hll HN0 HN1 HN2
      generalize slc Bf 0 L ++ slc Bf2 0 L2 = ll at *
      refine (read_c w6 _ (fun b h => h) A6 (L + L2) cap6 (lstF ll) V6.out (by omega) (by omega) (by omega)).mono ?_
      rintro e w7 ⟨hb7, ⟨h, _⟩ | ⟨_, q7, hq7, rfl⟩ | ⟨_, cd, iv, fv, hq7, rfl, hi, hf⟩⟩
      · omega
      · have e7 : q7 = L := by
          have h := run_tail (B' := lstF ll) (L' := L + L2) (by omega) (fun i hi => (HLS.out i hi).symm) pAll 0 (Nat.zero_le _) HQ.out
          rw [hq7] at h; injection h with h
        subst e7
        have S7 := Lib.hid ((S6.out.on hb7).box (.cells #[.slice none 0 0, .slice none 0 0, .int .i64 0] 25))
        clear hb7 hq7 S6 V6 HLS
        unfold zeroC
        go_upto_region 20 with (go_at_call 22; refine (num_d _ _).mono ?_; rintro e w9 ⟨rfl, rfl⟩)
        generalize w7.alloc (.cells #[.slice none 0 0, .slice none 0 0, .int .i64 0] 25) = w8 at *
        have SH : Hid (∀ t, t < q7 → run Bf t pAll 0 = .bad t) := Lib.hid (fun t ht => run_short ht pAll 0 Sm_all (Nat.zero_le _) (.inr ⟨_, HQ.out⟩))
        go_upto_region 21 with (go_at_call 22; refine (num_d _ _).mono ?_; rintro e w9 ⟨rfl, rfl⟩)
        try rw [hz]
        by_cases hcut : z < q7
        · go_wp2_with (go_at_call 22; refine (num_d _ _).mono ?_; rintro e w9 ⟨rfl, rfl⟩)
          refine (read_c w8 _ (fun b h => h) A z c Bf (S7.out.lt1 (by omega)) (by omega) (by omega) hc2).mono ?_
          rintro e wx ⟨hb7, ⟨h, _⟩ | ⟨_, q7, hq7, rfl⟩ | ⟨_, cd, iv, fv, hq7, rfl, _, _⟩⟩
          · omega
          · rw [SH.out z hcut] at hq7
            obtain rfl : z = q7 := by injection hq7
            have B7 := Lib.hid ((S7.out.on hb7).box (.cells #[.slice none 0 0, .slice none 0 0, .int .i64 0] 25)).below
            clear hb7 S7 SH
            unfold zeroC
            go_wp2_with (go_at_call 22; refine (num_d _ _).mono ?_; rintro e w9 ⟨rfl, rfl⟩)
            go_ret
            exact ⟨rfl, B7.out⟩
          · rw [SH.out z hcut] at hq7; cases hq7
        · go_wp2_with (go_at_call 22; refine (num_d _ _).mono ?_; rintro e w9 ⟨rfl, rfl⟩)
          go_ret
          exact ⟨rfl, S7.out.below⟩
      · have h := run_tail (B' := lstF ll) (L' := L + L2) (by omega) (fun i hi => (HLS.out i hi).symm) pAll 0 (Nat.zero_le _) HQ.out
        rw [hq7] at h; cases h
    · obtain rfl : L2 = 0 := by omega
      go_upto_region 20 with (go_at_call 22; refine (num_d _ _).mono ?_; rintro e w9 ⟨rfl, rfl⟩)
      generalize w2.alloc (.cells #[.slice A8 cd.ins.length c8, .slice A9 cd.fns.length c9, .int .i64 (cd.main : Int)] 25) = w3 at *
      have SH : Hid (∀ t, t < L → run Bf t pAll 0 = .bad t) := Lib.hid (fun t ht => run_short ht pAll 0 Sm_all (Nat.zero_le _) (.inr ⟨_, HQ.out⟩))
      go_upto_region 21 with (go_at_call 22; refine (num_d _ _).mono ?_; rintro e w9 ⟨rfl, rfl⟩)
      try rw [hz]
      by_cases hcut : z < L
      · go_wp2_with (go_at_call 22; refine (num_d _ _).mono ?_; rintro e w9 ⟨rfl, rfl⟩)
        refine (read_c w3 _ (fun b h => h) A z c Bf (S3.out.lt1 (by omega)) (by omega) (by omega) hc2).mono ?_
        rintro e w7 ⟨hb7, ⟨h, _⟩ | ⟨_, q7, hq7, rfl⟩ | ⟨_, cd, iv, fv, hq7, rfl, _, _⟩⟩
        · omega
        · rw [SH.out z hcut] at hq7
          obtain rfl : z = q7 := by injection hq7
          have B7 := Lib.hid ((S3.out.on hb7).box (.cells #[.slice none 0 0, .slice none 0 0, .int .i64 0] 25)).below
          clear hb7 S3 SH
          unfold zeroC
          go_wp2_with (go_at_call 22; refine (num_d _ _).mono ?_; rintro e w9 ⟨rfl, rfl⟩)
          go_ret
          exact ⟨rfl, B7.out⟩
        · rw [SH.out z hcut] at hq7; cases hq7
      · go_wp2_with (go_at_call 22; refine (num_d _ _).mono ?_; rintro e w9 ⟨rfl, rfl⟩)
        go_ret
        exact ⟨rfl, S3.out.below⟩
end Go.Proofs.Ytafhjpehkfcmjaa
