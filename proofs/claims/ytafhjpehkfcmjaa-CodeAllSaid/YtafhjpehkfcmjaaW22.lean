/- code's reader: number: the walk. the readers' bounds: the walks. -/
import Derived.Test.YtafhjpehkfcmjaaW20
set_option linter.unusedVariables false
set_option linter.unusedSimpArgs false
namespace Go.Proofs.Ytafhjpehkfcmjaa
open Go.RowKit
attribute [local go_sem ↓] Go.wp_at_zero Go.wp_at_succ
/-- What a number's reading does to the reader, as the plain reader has it. -/
def NumR (Bf : Nat → UInt8) (L n lo hi p : Nat) (bad : Bool) (p' : Nat) (bad' : Bool) (v : Int) : Prop :=
  (bad = true ∧ bad' = true ∧ p' = p) ∨ (bad = false ∧ bad' = true ∧ p' ≤ L ∧ ∀ k, run Bf L (pNum n lo hi k) p = .bad p') ∨
  (bad = false ∧ bad' = false ∧ p' = p + n ∧ p + n ≤ L ∧ ∃ u : Nat, v = IntKind.i64.wrap u ∧ lo ≤ u ∧ u ≤ hi ∧ u < 256 ^ n ∧ ∀ k, run Bf L (pNum n lo hi k) p = run Bf L (k u) p')
def NumPost (Bf : Nat → UInt8) (L n lo hi : Nat) (r : Nat) (bv iv fv : Value) (m : Int) (mb : Nat) (p : Nat) (bad : Bool) (w : World) (e : Ending) (w' : World) : Prop :=
  ∃ v p' bad', e = .returned (.int .i64 v) ∧ i64in v ∧ Blk w' r 67 (rcells bv p' bad' iv fv m mb) ∧ Only (fun b => b = r) w w' ∧ NumR Bf L n lo hi p bad p' bad' v
theorem numR_of {Bf : Nat → UInt8} {L n lo hi p : Nat} (h : p + n ≤ L) :
    (lo ≤ leN (slc Bf p n) ∧ leN (slc Bf p n) ≤ hi → NumR Bf L n lo hi p false (p + n) false (IntKind.i64.wrap (leN (slc Bf p n) : Nat))) ∧
    (¬ (lo ≤ leN (slc Bf p n) ∧ leN (slc Bf p n) ≤ hi) → ∀ v, NumR Bf L n lo hi p false p true v) := by
  have hl := leN_lt (slc Bf p n)
  rw [slc_length] at hl
  refine ⟨fun g => .inr (.inr ⟨rfl, rfl, rfl, h, _, rfl, g.1, g.2, hl, fun k => ?_⟩), fun g v => .inr (.inl ⟨rfl, rfl, by omega, fun k => ?_⟩)⟩
  · unfold pNum; rw [run_step h g]
  · unfold pNum; rw [run_wrong h g]
theorem numR_lack {Bf : Nat → UInt8} {L n lo hi p : Nat} (h : L < p + n) : ∀ v, NumR Bf L n lo hi p false L true v :=
  fun v => .inr (.inl ⟨rfl, rfl, Nat.le_refl _, fun k => by unfold pNum; rw [run_lack h]⟩)
theorem or_add {x c i : Nat} (hx : x < 256 ^ i) (hc : c < 256) (hi : i ≤ 7) : bits BinOp.or IntKind.u64 (x : Int) (IntKind.u64.wrap ((c : Int) * 2 ^ (8 * i))) = ((x + 256 ^ i * c : Nat) : Int) := by
  have e : (256 : Nat) ^ i = 2 ^ (8 * i) := by rw [Nat.pow_mul]
  have e2 : ((2 ^ (8 * i) : Nat) : Int) = (2 : Int) ^ (8 * i) := by rw [Int.natCast_pow]; rfl
  rw [e] at hx ⊢
  have hle : 2 ^ (8 * i) ≤ 2 ^ 56 := Nat.pow_le_pow_right (by omega) (by omega)
  have h256 : c * 2 ^ (8 * i) ≤ 255 * 2 ^ 56 := Nat.mul_le_mul (by omega) hle
  have hb : ((c * 2 ^ (8 * i) : Nat) : Int) = (c : Int) * 2 ^ (8 * i) := by rw [Int.natCast_mul, e2]
  have hw : IntKind.u64.wrap ((c : Int) * 2 ^ (8 * i)) = (c : Int) * 2 ^ (8 * i) := by
    rw [← hb, IntKind.wrap_u64]
    omega
  have hx64 : (x : Int) < 2 ^ 64 := by have : x < 2 ^ 56 := Nat.lt_of_lt_of_le hx hle; omega
  have hxi : (x : Int) < 2 ^ (8 * i) := by rw [← e2]; omega
  have hc0 : (0 : Int) ≤ (c : Int) * 2 ^ (8 * i) := by rw [← hb]; omega
  have hc64 : (c : Int) * 2 ^ (8 * i) < 2 ^ 64 := by rw [← hb]; omega
  rw [hw, bits_join_low .u64 64 (by decide) (fun n h0 h1 => wraps_u64 n h0 h1) (8 * i) (x : Int) ((c : Int) * 2 ^ (8 * i)) (by omega) hxi hx64 hc0 (Int.mul_emod_left ..) hc64]
  rw [Int.natCast_add, Int.natCast_mul, e2, Int.mul_comm]
theorem w64 (x : Int) : IntKind.i64.wrap x = wrap64 x := IntWalk.i64_left x
theorem slc_zero (n : Nat) : leN (slc (fun _ => 0) 0 n) = 0 := by
  induction n with
  | zero => rfl
  | succ n ih => rw [slc_succ, leN_snoc, ih]; simp
set_option maxRecDepth 100000 in
set_option maxHeartbeats 16000000 in
theorem rdnumber_c (w : World) (G : Nat → Prop) (A : Option Addr) (L c : Nat) (Bf : Nat → UInt8) (r : Nat) (iv fv : Value) (m : Int) (mb : Nat) (p : Nat) (bad : Bool) (n lo hi : Nat) (hb : Blk w r 67 (rcells (.slice A L c) p bad iv fv m mb)) (hB : BL w G A L Bf) (hGr : ¬ G r) (hp : p ≤ L) (hL : L ≤ 300000000) (hc : L ≤ c) (hc2 : c ≤ 9223372036854775807) (hn : 1 ≤ n) (hn2 : n ≤ 8) (hlo : lo < 18446744073709551616) (hhi : hi < 18446744073709551616) :
    Calls Try.prog 28 #[.pointer (some ⟨r, 0, none⟩), .int .i64 (n : Int), .int .u64 (lo : Int), .int .u64 (hi : Int)] w (NumPost Bf L n lo hi r (.slice A L c) iv fv m mb p bad w) := by
  have FC := Lib.hid (rdfield_c w G A L c Bf r iv fv m mb p bad n hb hB hGr hp hL hc hc2 hn (by omega))
  clear hb hB hGr
  go_enter Try.func28, Try.ntmps28
  go_wp2_with fail
  refine FC.out.mono ?_
  rintro e w1 ⟨D, S, p', bad', rfl, hb1, ho1, hD, hR⟩
  have HB := Lib.hid hb1
  have HO := Lib.hid ho1
  have HD := Lib.hid hD
  have HR := Lib.hid hR
  have hlt := hb1.lt
  clear hb1 ho1 hD hR FC
  go_wp2_with fail
  go_loopw [9, 16] (fun xv jv wx => wx = w1 ∧ ∃ j : Nat, j ≤ n ∧ jv = .int .i64 (j : Int) ∧ ∃ x : Nat, xv = .int .u64 (x : Int) ∧ x < 18446744073709551616 ∧ Hid (x = leN (slc S 0 j))) (fun _ jv _ => n - (intOf jv).toNat)
  case atStart => exact ⟨rfl, 0, by omega, rfl, 0, rfl, by omega, rfl⟩
  case round =>
    obtain ⟨hw, j, hj, rfl, x, rfl, hx, X⟩ := hrel
    subst hw
    by_cases hlt : j < n
    · obtain ⟨b, off, rfl, hGb, hbl, hcell⟩ := HD.out j hlt
      have hsv : (S j).toNat < 256 := UInt8.toNat_lt _
      generalize hs : (S j).toNat = s at *
      have hxl : x < 256 ^ j := by rw [X.out]; have := leN_lt (slc S 0 j); rwa [slc_length] at this
      have OR := or_add hxl hsv (show j ≤ 7 by omega)
      have hx2 : x + 256 ^ j * s < 18446744073709551616 := by
        have h1 : 256 ^ (j + 1) ≤ 18446744073709551616 := pow256_le (by omega)
        have h2 : 256 ^ j * s ≤ 256 ^ j * 255 := Nat.mul_le_mul_left _ (by omega)
        rw [Nat.pow_succ] at h1
        omega
      have XN : Hid (x + 256 ^ j * s = leN (slc S 0 (j + 1))) := by show _ = _; rw [slc_succ, leN_snoc, ← X.out, slc_length, Nat.zero_add, hs]
      clear X hs
      go_wp2_with fail
      go_roundw
      case rel => exact ⟨by first | trivial | rfl, j + 1, by omega, by go_num, x + 256 ^ j * s, by first | rw [OR] | (simp; done), hx2, XN⟩
      case measure => first | (simp [intOf]; done) | (simp [intOf]; omega)
    · have hjn : j = n := by omega
      subst hjn
      have z : ∀ j, wr.frozen? ⟨r, j, none⟩ = false := HB.out.frozen
      have c1 : wr.cell? ⟨r, 1, none⟩ = some (.int .i64 (p' : Int)) := HB.out.cell 1
      have c2 : wr.cell? ⟨r, 2, none⟩ = some (.bool bad') := HB.out.cell 2
      have DONE := Lib.hid (fun v hv hR => show NumPost Bf L j lo hi r (.slice A L c) iv fv m mb p bad w (.returned (.int .i64 v)) wr from ⟨v, p', bad', rfl, hv, HB.out, HO.out, hR⟩)
      rcases HR.out with ⟨rfl, rfl, rfl⟩ | ⟨rfl, hlk, rfl, rfl⟩ | ⟨rfl, hfit, rfl, rfl, hS⟩
      · have E := Lib.hid (DONE.out (IntKind.i64.wrap x) (wrap_in _) (.inl ⟨rfl, rfl, rfl⟩))
        clear DONE HR HD X
        rw [w64] at E
        go_wp2_with fail
        go_ret
        exact E.out
      · have E := Lib.hid (DONE.out (IntKind.i64.wrap x) (wrap_in _) (numR_lack hlk _))
        clear DONE HR HD X
        rw [w64] at E
        go_wp2_with fail
        go_ret
        exact E.out
      · have XS : x = leN (slc Bf p j) := by
          rw [X.out]
          congr 1
          unfold slc
          refine List.map_congr_left fun i hi => ?_
          rw [Nat.zero_add]
          exact hS i (List.mem_range.1 hi)
        have NR := numR_of (Bf := Bf) (lo := lo) (hi := hi) hfit
        rw [← XS] at NR
        rcases (show x < lo ∨ (lo ≤ x ∧ hi < x) ∨ (lo ≤ x ∧ x ≤ hi) by omega) with g | ⟨g1, g2⟩ | ⟨g1, g2⟩
        · have E : Hid (NumPost Bf L j lo hi r (.slice A L c) iv fv m mb p false w (.returned (.int .i64 (IntKind.i64.wrap x))) ((wr.setCell ⟨r, 1, none⟩ (.int .i64 (p : Int))).setCell ⟨r, 2, none⟩ (.bool true))) :=
            ⟨_, p, true, rfl, wrap_in _, (HB.out.set_ 1 _).set_ 2 _, (HO.out.setCell (.inl rfl) _).setCell (.inl rfl) _, NR.2 (by omega) _⟩
          clear DONE HR HD X NR HB HO XS hS
          rw [w64] at E
          go_wp2_with fail
          go_ret
          exact E.out
        · have E : Hid (NumPost Bf L j lo hi r (.slice A L c) iv fv m mb p false w (.returned (.int .i64 (IntKind.i64.wrap x))) ((wr.setCell ⟨r, 1, none⟩ (.int .i64 (p : Int))).setCell ⟨r, 2, none⟩ (.bool true))) :=
            ⟨_, p, true, rfl, wrap_in _, (HB.out.set_ 1 _).set_ 2 _, (HO.out.setCell (.inl rfl) _).setCell (.inl rfl) _, NR.2 (by omega) _⟩
          clear DONE HR HD X NR HB HO XS hS
          rw [w64] at E
          go_wp2_with fail
          go_ret
          exact E.out
        · have E := Lib.hid (DONE.out (IntKind.i64.wrap x) (wrap_in _) (NR.1 ⟨g1, g2⟩))
          clear DONE HR HD X NR HB HO XS hS
          rw [w64] at E
          go_wp2_with fail
          go_ret
          exact E.out
end Go.Proofs.Ytafhjpehkfcmjaa
namespace Go.Proofs.Ytafhjpehkfcmjaa
open Go.RowKit
attribute [local go_sem ↓] Go.wp_at_zero Go.wp_at_succ
theorem wide_ops {op : Nat} (h : op ≤ 38) (hw : wideOf (op : Int) = true) : op = 1 ∨ op = 21 ∨ op = 22 ∨ op = 23 ∨ op = 24 ∨ op = 25 ∨ op = 26 ∨ op = 32 ∨ op = 33 ∨ op = 34 ∨ op = 35 := by
  have hh : ∀ j : Fin 39, wideOf (j.1 : Int) = true → j.1 = 1 ∨ j.1 = 21 ∨ j.1 = 22 ∨ j.1 = 23 ∨ j.1 = 24 ∨ j.1 = 25 ∨ j.1 = 26 ∨ j.1 = 32 ∨ j.1 = 33 ∨ j.1 = 34 ∨ j.1 = 35 := by decide
  exact hh ⟨op, by omega⟩ hw
/-- A head that a reader took: its numbers' bounds. -/
structure FnB (f : Fn) : Prop where
  fr1 : 2 ≤ f.frame
  fr2 : f.frame ≤ 1099511627776
  fi1 : 0 ≤ f.first
  fi2 : f.first ≤ 2000000000000000000
  cn1 : 1 ≤ f.count
  cn2 : f.count ≤ 4294967295
  pa1 : 0 ≤ f.params
  pa2 : f.params ≤ 8
theorem FnB.in_ {f : Fn} (h : FnB f) : FnIn f := by
  obtain ⟨h1, h2, h3, h4, h5, h6, h7, h8⟩ := h
  exact ⟨⟨by omega, by omega⟩, ⟨by omega, by omega⟩, ⟨by omega, by omega⟩, ⟨by omega, by omega⟩⟩
set_option maxRecDepth 100000 in
set_option maxHeartbeats 16000000 in
theorem rdbounds_c (w : World) (bv : Value) (r : Nat) (iv : Value) (FA : Option Addr) (nf cf : Nat) (m : Int) (mb : Nat) (p : Nat) (bad : Bool) (op : Nat) (f : Fn) (hb : Blk w r 67 (rcells bv p bad iv (.slice FA nf cf) m mb)) (hf : FnB f) (hnf : 1 ≤ nf) (hnf2 : nf ≤ 300000000) (hop : op ≤ 38) (hw : wideOf (op : Int) = true) :
    Calls Try.prog 41 #[.pointer (some ⟨r, 0, none⟩), .int .i64 (op : Int), fnV f] w fun e w' => e = .returned (.tuple #[.int .u64 ((bnd nf f op).1 : Nat), .int .u64 ((bnd nf f op).2 : Nat)]) ∧ Below w.heap.size w w' := by
  have c4 : w.cell? ⟨r, 4, none⟩ = some (.slice FA nf cf) := hb.cell 4
  have hlt := hb.lt
  have BW : Hid (∀ k, Below w.heap.size w ((w.alloc (.cells #[.string f.name, .int .i64 f.frame, .int .i64 f.first, .int .i64 f.count, .int .i64 f.params] 53)).drewN k)) := fun k => ⟨rfl, rfl, rfl, (ba (Below.refl w.heap.size w) _).size, (ba (Below.refl w.heap.size w) _).block⟩
  have B0 : Hid (Below w.heap.size w (w.alloc (.cells #[.string f.name, .int .i64 f.frame, .int .i64 f.first, .int .i64 f.count, .int .i64 f.params] 53))) := ba (Below.refl w.heap.size w) _
  obtain ⟨a1, a2, a3, a4, a5, a6, a7, a8⟩ := hf
  clear hb
  have hop2 := wide_ops hop hw
  clear hw hop
  unfold fnV
  obtain ⟨name, frame, first, count, params⟩ := f
  simp only at *
  obtain ⟨fi, rfl⟩ := Int.eq_ofNat_of_zero_le a3
  obtain ⟨fr, rfl⟩ := Int.eq_ofNat_of_zero_le (show 0 ≤ frame by omega)
  obtain ⟨cn, rfl⟩ := Int.eq_ofNat_of_zero_le (show 0 ≤ count by omega)
  rcases hop2 with rfl | rfl | rfl | rfl | rfl | rfl | rfl | rfl | rfl | rfl | rfl
  all_goals go_enter Try.func41, Try.ntmps41
  all_goals go_wp2_with fail
  all_goals try (go_quiet (fail); go_wp2_with fail)
  all_goals go_ret2
  all_goals first | (refine ⟨?_, B0.out⟩; rfl) | (refine ⟨?_, BW.out _⟩; simp [bnd]; done) | (refine ⟨?_, BW.out _⟩; simp [bnd]; omega)
end Go.Proofs.Ytafhjpehkfcmjaa
