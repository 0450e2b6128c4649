/- CodeFlip: the walk. -/
import Derived.Test.YtafhjpehkfcmjaaW41
set_option linter.unusedVariables false
set_option linter.unusedSimpArgs false
namespace Go.Proofs.Ytafhjpehkfcmjaa
open Go.RowKit
attribute [local go_sem ↓] Go.wp_at_zero Go.wp_at_succ
theorem CB.put {w wr : World} {G : Nat → Prop} {A B : Option Addr} {ni ci nf cf : Nat} {X : Nat → Ins} {Fs : Nat → Fn} {m : Int} (h : CB w wr G A ni ci X B nf cf Fs m) (hG : ∀ b, G b → b < w.heap.size) {g : Nat} (hg : w.heap.size < g) (k : Nat) (u : Value) : CB w (wr.setCell ⟨g, k, none⟩ u) G A ni ci X B nf cf Fs m := by
  have o : Only (fun b => b = g) wr (wr.setCell ⟨g, k, none⟩ u) := (Only.refl (fun b => b = g) wr).setCell (.inl rfl) u
  exact ⟨h.b1.only o (by show ¬ (w.heap.size = g); omega), h.il.only o (fun b _ hb e => by have := hG b hb; omega), h.fl.only o (fun b _ hb e => by have := hG b hb; omega), h.below.setCell (by show _ ≤ g; omega) u⟩
theorem num_d (e : Int) (w : World) : Calls Try.prog 22 #[.int .i64 e] w fun r w' => r = .returned (.int .i64 e) ∧ w = w' :=
  (num_c e w).mono fun _ _ h => ⟨h.1, h.2.symm⟩
set_option maxRecDepth 100000 in
set_option maxHeartbeats 16000000 in
theorem flip_c (w : World) (G : Nat → Prop) (hG : ∀ b, G b → b < w.heap.size) (A : Option Addr) (ni ci : Nat) (X : Nat → Ins) (B : Option Addr) (nf cf : Nat) (Fs : Nat → Fn) (m : Int) (hi : IL w G A ni X) (hf : FL w G B nf Fs) (hci : ni ≤ ci) (hcf : nf ≤ cf) (hm : i64in m) (n1 : Int) (hn1 : i64in n1) (bb : UInt8) :
    Calls Try.prog 11 #[codeV A ni ci B nf cf m, .int .i64 n1, .int .u8 (bb.toNat : Int)] w fun e w' => e = .returned (.bool true) ∧ Below w.heap.size w w' := by
  have S0 : Hid (CB w (w.alloc (.cells #[.slice A ni ci, .slice B nf cf, .int .i64 m] 25)) G A ni ci X B nf cf Fs m) := CB.start hi hf
  have HG := Lib.hid hG
  have HM := Lib.hid hm
  obtain ⟨n1a, n1b⟩ := hn1
  clear hi hf hG hm
  unfold codeV
  go_enter Try.func11, Try.ntmps11
  go_wp2_with fail
  refine (fits_c _ G A ni ci X B nf cf Fs m S0.out.il S0.out.fl hci hcf).mono ?_
  rintro e w2 ⟨r, rfl, hr, hb2⟩
  have S2 := Lib.hid (S0.out.on hb2)
  clear hb2 S0
  cases r with
  | false =>
    clear hr
    go_wp2_with fail
    go_ret
    exact ⟨rfl, S2.out.below⟩
  | true =>
    obtain ⟨n1', n2'⟩ := hr rfl
    go_wp2_with fail
    refine (alive_c w2).mono ?_
    rintro e w3 ⟨rfl, hb3⟩
    have S3 := Lib.hid (S2.out.on hb3)
    clear hb3 S2 hr
    have c0 : w3.cell? ⟨w.heap.size, 0, none⟩ = some (.slice A ni ci) := S3.out.b1.cell 0
    have c1 : w3.cell? ⟨w.heap.size, 1, none⟩ = some (.slice B nf cf) := S3.out.b1.cell 1
    have c2 : w3.cell? ⟨w.heap.size, 2, none⟩ = some (.int .i64 m) := S3.out.b1.cell 2
    have hl3 := S3.out.b1.lt
    go_wp2_with fail
    have hG3 : ∀ b, G b → b < w3.heap.size := fun b hb => Nat.lt_trans (HG.out b hb) hl3
    refine (write_c w3 G hG3 A ni ci X B nf cf Fs m S3.out.il hci S3.out.fl hcf HM.out (by omega) (by omega)).mono ?_
    clear hG3
    rintro e w4 ⟨v, r, rfl, hb4, ⟨rfl, hok, hv⟩ | ⟨rfl, hn, rfl⟩⟩
    · have hmin := enc_min ni X nf Fs m
      have hmax := enc_max hok n1' n2'
      have FG := Lib.hid (fun k b cd hk hb h => flip_good (ni := ni) (X := X) (nf := nf) (Fs := Fs) (m := m) (k := k) (b := b) (cd := cd) hk (by omega) hb h)
      have FB := Lib.hid (fun k b q hk h => flip_bad (k := k) (b := b) (q := q) hok (fun a ha => (S3.out.il.2 a ha).1) n1' n2' hk h)
      obtain ⟨V, cv, rfl, k1, k2, hg⟩ := own_shape hv
      obtain ⟨g, rfl, hg1, hg2, _⟩ := hg (by omega)
      have S4 := Lib.hid (S3.out.on hb4)
      have V4 := Lib.hid hv
      have B34 : Hid (w3.heap.size ≤ g ∧ w.heap.size < w3.heap.size) := ⟨hg1, hl3⟩
      clear hb4 hv hok S3 c0 c1 c2 hl3
      generalize enc ni X nf Fs m = l at *
      generalize hLL : l.length = L at *
      unfold maxLen at k2
      have hL0 : 0 < L := by omega
      obtain ⟨kk, hkk, t1, t2, ht⟩ := flip_at n1 hL0
      have hL1 : (L : Int) ≠ 0 := by omega
      go_upto_region 8 with (go_at_call 22; refine (num_d _ _).mono ?_; rintro e w9 ⟨rfl, rfl⟩)
      generalize n1.tmod (L : Int) = z at *
      go_upto_if 46 with fail
      go_cut [10] from 51 (fun kv wx => kv = .int .i64 (kk : Int) ∧ wx = w4)
      case first =>
        clear FG FB V4 B34 S4 HG HM
        rcases ht with ⟨z1, z2⟩ | ⟨z1, z2⟩
        · go_wp2_with fail
          go_meet
          case rel => exact ⟨by rw [← z2], rfl⟩
        · go_wp2_with fail
          go_meet
          case rel => exact ⟨by rw [← z2], rfl⟩
      case rest =>
        obtain ⟨rfl, rfl⟩ := hcut
        clear t1 t2 ht
        have kcell : wc.cell? ⟨g, kk, none⟩ = some (.int .u8 ((lstF l kk).toNat : Int)) := by
          obtain ⟨b0, off0, e0, _, _, kc⟩ := V4.out.bl kk (by omega)
          injection e0 with e0
          injection e0 with e0 e1 _
          subst e0 e1
          rw [Nat.zero_add] at kc
          exact kc
        by_cases heq : lstF l kk = bb
        · clear FG FB
          rw [heq] at kcell
          go_wp2_with fail
          go_ret
          exact ⟨rfl, S4.out.below⟩
        · have hne : (((lstF l kk).toNat : Int) == (bb.toNat : Int)) = false := beq_eq_false_iff_ne.2 (fun e => heq (UInt8.toNat_inj.1 (by omega)))
          have hbr : BR wc w3.heap.size (.slice (some ⟨g, 0, none⟩) l.length cv) l := by rw [hLL]; exact V4.out
          have hfz : wc.frozen? ⟨g, kk, none⟩ = false := World.ownsRow.frozenAt hbr kk
          clear hbr
          have hgw : w.heap.size < g := by have := B34.out.2; omega
          have S5 := Lib.hid (S4.out.put HG.out hgw kk (.int .u8 (bb.toNat : Int)))
          have V5 := Lib.hid (V4.out.put (k := kk) (b := bb))
          have FG5 := Lib.hid (fun cd h => FG.out kk bb cd hkk heq h)
          have FB5 := Lib.hid (fun q h => FB.out kk bb q hkk h)
          have hls : (l.set kk bb).length = L := by rw [List.length_set, hLL]
          clear FG FB V4 S4 B34 hgw
          go_wp2_with fail
          clear kcell hfz hne
          generalize wc.setCell ⟨g, kk, none⟩ (.int .u8 (bb.toNat : Int)) = w5 at *
          have V6 := Lib.hid (V5.out.bl)
          rw [hls] at V6
          refine (read_c w5 _ (fun b h => h) _ L cv (lstF (l.set kk bb)) V6.out (by omega) k1 (by omega)).mono ?_
          rintro e w6 ⟨hb6, ⟨h, _⟩ | ⟨_, q, hq, rfl⟩ | ⟨_, cd, iv, fv, hq, rfl, hi', hf'⟩⟩
          · omega
          · obtain ⟨q1, q2⟩ := FB5.out q hq
            have S6 := Lib.hid (S5.out.on hb6)
            have B7 := Lib.hid (S6.out.below.alloc S6.out.below.size (.cells #[.slice none 0 0, .slice none 0 0, .int .i64 0] 25))
            clear hb6 hq S5 V5 V6 FG5 FB5 S6
            unfold zeroC
            go_wp2_with (go_at_call 22; refine (num_d _ _).mono ?_; rintro e w9 ⟨rfl, rfl⟩)
            go_ret
            have hd : decide ((kk : Int) - 64 < (q : Int)) = true := decide_eq_true (by omega)
            exact ⟨by show Ending.returned (.bool (decide ((kk : Int) - 64 < (q : Int)))) = _; rw [hd], B7.out⟩
          · have HNS := Lib.hid (FG5.out cd hq)
            have hmn : (cd.main : Int) < cd.fns.length := (run_good (by omega) hq).1.2.2.2.1
            have hml := (run_good (by omega) hq).2.2.2.2
            have hmm := enc_min cd.ins.length (insF cd.ins) cd.fns.length (fnF cd.fns) cd.main
            unfold encC at hml
            rw [← hml] at hmm
            clear hml
            obtain ⟨A', c1, D', c2, rfl, rfl, l1, l2, hil, hfl⟩ := read_laid (by omega) hq hi' hf'
            have hb7 := (Below.refl w6.heap.size w6).alloc (Nat.le_refl _) (.cells #[.slice A' cd.ins.length c1, .slice D' cd.fns.length c2, .int .i64 (cd.main : Int)] 25)
            have S7 := Lib.hid ((S5.out.on hb6).on hb7)
            have I7 := Lib.hid (hil.below hb7)
            have F7 := Lib.hid (hfl.below hb7)
            have d0 : (w6.alloc (.cells #[.slice A' cd.ins.length c1, .slice D' cd.fns.length c2, .int .i64 (cd.main : Int)] 25)).cell? ⟨w.heap.size, 0, none⟩ = some (.slice A ni ci) := S7.out.b1.cell 0
            have d1 : (w6.alloc (.cells #[.slice A' cd.ins.length c1, .slice D' cd.fns.length c2, .int .i64 (cd.main : Int)] 25)).cell? ⟨w.heap.size, 1, none⟩ = some (.slice B nf cf) := S7.out.b1.cell 1
            have d2 : (w6.alloc (.cells #[.slice A' cd.ins.length c1, .slice D' cd.fns.length c2, .int .i64 (cd.main : Int)] 25)).cell? ⟨w.heap.size, 2, none⟩ = some (.int .i64 m) := S7.out.b1.cell 2
            have hl7 := S7.out.b1.lt
            clear hb6 hb7 hq hil hfl hi' hf' S5 V5 V6 FG5 FB5
            go_wp2_with (go_at_call 22; refine (num_d _ _).mono ?_; rintro e w9 ⟨rfl, rfl⟩)
            refine (same_c _ _ _ A ni ci X B nf cf Fs m A' _ c1 _ D' _ c2 _ cd.main S7.out.il S7.out.fl I7.out F7.out HM.out ⟨by omega, by omega⟩ hci l1 hcf l2).mono ?_
            rintro e w8 ⟨r, rfl, hr, hb8⟩
            have B8 := Lib.hid (S7.out.below.trans (hb8.mono S7.out.below.size))
            have hrf : r = false := by
              cases r with
              | false => rfl
              | true => exact absurd (hr.1 rfl) HNS.out
            subst hrf
            clear hr hb8 S7 I7 F7 d0 d1 d2 hl7 HNS
            go_wp2_with fail
            go_ret
            exact ⟨rfl, B8.out⟩
    · have S4 := Lib.hid (S3.out.on hb4)
      clear hb4 S3 hn c0 c1 c2 hl3
      go_wp2_with (go_at_call 22; refine (num_d _ _).mono ?_; rintro e w9 ⟨rfl, rfl⟩)
      go_ret
      exact ⟨rfl, S4.out.below⟩
end Go.Proofs.Ytafhjpehkfcmjaa
