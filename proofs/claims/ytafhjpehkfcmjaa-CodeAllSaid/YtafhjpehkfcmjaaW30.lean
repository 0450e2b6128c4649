/- the document's reader: take: the walk. -/
import Derived.Test.YtafhjpehkfcmjaaW29
set_option linter.unusedVariables false
set_option linter.unusedSimpArgs false
namespace Go.Proofs.Ytafhjpehkfcmjaa
open Go.RowKit
attribute [local go_sem ↓] Go.wp_at_zero Go.wp_at_succ
theorem slc_cons (B : Nat → UInt8) (a n : Nat) : slc B a (n + 1) = B a :: slc B (a + 1) n := by
  unfold slc
  rw [List.range_succ_eq_map, List.map_cons, List.map_map]
  congr 1
  exact List.map_congr_left fun i _ => by simp [Nat.add_assoc, Nat.add_comm 1]
def lcells (bv : Value) (p : Nat) (bad : Bool) : Array Value := #[bv, .int .i64 (p : Int), .bool bad]
def TakePost (Bf : Nat → UInt8) (L n lo hi : Nat) (r : Nat) (bv : Value) (p : Nat) (bad : Bool) (w : World) (e : Ending) (w' : World) : Prop :=
  ∃ v p' bad', e = .returned (.int .i64 v) ∧ i64in v ∧ Blk w' r 78 (lcells bv p' bad') ∧ Only (fun b => b = r) w w' ∧ NumR Bf L n lo hi p bad p' bad' v
set_option maxRecDepth 100000 in
set_option maxHeartbeats 16000000 in
theorem take_c (w : World) (G : Nat → Prop) (A : Option Addr) (L c : Nat) (Bf : Nat → UInt8) (r : Nat) (p : Nat) (bad : Bool) (n lo hi : Nat) (hb : Blk w r 78 (lcells (.slice A L c) p bad)) (hB : BL w G A L Bf) (hGr : ¬ G r) (hp : p ≤ L) (hL : L ≤ 300000000) (hc : L ≤ c) (hc2 : c ≤ 9223372036854775807) (hn : 1 ≤ n) (hn2 : n ≤ 8) (hlo : lo < 18446744073709551616) (hhi : hi < 18446744073709551616) :
    Calls Try.prog 35 #[.pointer (some ⟨r, 0, none⟩), .int .i64 (n : Int), .int .u64 (lo : Int), .int .u64 (hi : Int)] w (TakePost Bf L n lo hi r (.slice A L c) p bad w) := by
  have HB := Lib.hid hb
  have HR := Lib.hid hB
  have c0 : w.cell? ⟨r, 0, none⟩ = some (.slice A L c) := hb.cell 0
  have c1 : w.cell? ⟨r, 1, none⟩ = some (.int .i64 (p : Int)) := hb.cell 1
  have c2 : w.cell? ⟨r, 2, none⟩ = some (.bool bad) := hb.cell 2
  have z : ∀ j, w.frozen? ⟨r, j, none⟩ = false := hb.frozen
  have hlt := hb.lt
  clear hb hB hGr
  cases bad with
  | true =>
    have E : Hid (TakePost Bf L n lo hi r (.slice A L c) p true w (.returned (.int .i64 0)) w) := ⟨0, p, true, rfl, i64in_zero, HB.out, Only.refl _ _, .inl ⟨rfl, rfl, rfl⟩⟩
    clear HB HR
    go_enter Try.func35, Try.ntmps35
    go_wp2_with fail
    go_ret
    exact E.out
  | false =>
    by_cases hfit : p + n ≤ L
    · obtain ⟨b, off, rfl, hGb, hbl, _⟩ := HR.out 0 (by omega)
      go_enter Try.func35, Try.ntmps35
      go_wp2_with fail
      go_quiet (fail)
      go_wp2_with fail
      go_loopw [9, 10] (fun xv jv wx => ∃ (j x q : Nat), j ≤ n ∧ jv = .int .i64 ((j : Int) - 1) ∧ xv = .int .u64 (x : Int) ∧ wx = w.drewN q ∧ Hid (x = leN (slc Bf (p + j) (n - j)))) (fun _ jv _ => (intOf jv + 1).toNat)
      case atStart => exact ⟨n, 0, _, by omega, by rfl, by rfl, by rfl, by show 0 = _; rw [Nat.sub_self]; rfl⟩
      case round =>
        obtain ⟨j, x, q, hj, rfl, rfl, rfl, X⟩ := hrel
        by_cases hj0 : 1 ≤ j
        · obtain ⟨i, rfl⟩ : ∃ i, j = i + 1 := ⟨j - 1, by omega⟩
          obtain ⟨b', off', e, _, _, hcell⟩ := HR.out (p + i) (by omega)
          injection e with e
          injection e with e1 e2 _
          subst e1 e2
          have hxl : x < 256 ^ (n - (i + 1)) := by rw [X.out]; have := leN_lt (slc Bf (p + (i + 1)) (n - (i + 1))); rwa [slc_length] at this
          have h7 : 256 ^ (n - (i + 1)) ≤ 256 ^ 7 := Nat.pow_le_pow_right (by omega) (by omega)
          have hx7 : x < 72057594037927936 := Nat.lt_of_lt_of_le hxl h7
          have hsv : (Bf (p + i)).toNat < 256 := UInt8.toNat_lt _
          have XN : Hid ((Bf (p + i)).toNat + 256 * x = leN (slc Bf (p + i) (n - i))) := by
            show _ = _
            rw [show n - i = (n - (i + 1)) + 1 by omega, slc_cons, leN, X.out, Nat.add_assoc]
          generalize (Bf (p + i)).toNat = s at *
          clear X hxl h7
          go_wp2_with fail
          go_quiet (fail)
          go_wp2_with fail
          go_roundw
          case rel => exact ⟨i, s + 256 * x, _, by omega, by go_num, by go_num, by rfl, XN⟩
          case measure => first | (simp [intOf]; done) | (simp [intOf]; omega)
        · have hj' : j = 0 := by omega
          subst hj'
          have XS : x = leN (slc Bf p n) := X.out
          have hxl : x < 256 ^ n := by rw [XS]; have := leN_lt (slc Bf p n); rwa [slc_length] at this
          have hx8 : x < 18446744073709551616 := Nat.lt_of_lt_of_le hxl (pow256_le hn2)
          have NR := numR_of (Bf := Bf) (lo := lo) (hi := hi) hfit
          rw [← XS] at NR
          rcases (show x < lo ∨ (lo ≤ x ∧ hi < x) ∨ (lo ≤ x ∧ x ≤ hi) by omega) with g | ⟨g1, g2⟩ | ⟨g1, g2⟩
          · have E : Hid (TakePost Bf L n lo hi r (.slice (some ⟨b, off, none⟩) L c) p false w (.returned (.int .i64 0)) ((w.drewN q).setCell ⟨r, 2, none⟩ (.bool true))) := ⟨0, p, true, rfl, i64in_zero, (HB.out.drewN q).set_ 2 _, ((Only.refl (fun b => b = r) w).drewN q).setCell (.inl rfl) _, NR.2 (by omega) _⟩
            clear HB HR X XS NR
            go_wp2_with fail
            go_ret
            exact E.out
          · have E : Hid (TakePost Bf L n lo hi r (.slice (some ⟨b, off, none⟩) L c) p false w (.returned (.int .i64 0)) ((w.drewN q).setCell ⟨r, 2, none⟩ (.bool true))) := ⟨0, p, true, rfl, i64in_zero, (HB.out.drewN q).set_ 2 _, ((Only.refl (fun b => b = r) w).drewN q).setCell (.inl rfl) _, NR.2 (by omega) _⟩
            clear HB HR X XS NR
            go_wp2_with fail
            go_ret
            exact E.out
          · have E : Hid (TakePost Bf L n lo hi r (.slice (some ⟨b, off, none⟩) L c) p false w (.returned (.int .i64 (IntKind.i64.wrap x))) ((w.drewN q).setCell ⟨r, 1, none⟩ (.int .i64 ((p : Int) + (n : Int))))) := ⟨_, p + n, false, rfl, wrap_in _, by have := (HB.out.drewN q).set_ 1 (.int .i64 ((p : Int) + (n : Int))); rw [← Int.natCast_add] at this ⊢; exact this, ((Only.refl (fun b => b = r) w).drewN q).setCell (.inl rfl) _, NR.1 ⟨g1, g2⟩⟩
            clear HB HR X XS NR
            rw [w64] at E
            go_wp2_with fail
            go_ret
            exact E.out
    · have E : Hid (∀ q, TakePost Bf L n lo hi r (.slice A L c) p false w (.returned (.int .i64 0)) (((w.drewN q).setCell ⟨r, 1, none⟩ (.int .i64 (L : Int))).setCell ⟨r, 2, none⟩ (.bool true))) := fun q => ⟨0, L, true, rfl, i64in_zero, ((HB.out.drewN q).set_ 1 _).set_ 2 _, (((Only.refl (fun b => b = r) w).drewN q).setCell (.inl rfl) _).setCell (.inl rfl) _, numR_lack (by omega) _⟩
      clear HB HR
      go_enter Try.func35, Try.ntmps35
      go_wp2_with fail
      go_quiet (fail)
      go_wp2_with fail
      go_ret
      exact E.out _
end Go.Proofs.Ytafhjpehkfcmjaa
