/- what reads back is written just so: the walk. fits: the walk. -/
import Derived.Test.YtafhjpehkfcmjaaW37
set_option linter.unusedVariables false
set_option linter.unusedSimpArgs false
namespace Go.Proofs.Ytafhjpehkfcmjaa
open Go.RowKit
attribute [local go_sem ↓] Go.wp_at_zero Go.wp_at_succ
theorem fnsB_min (Fs : Nat → Fn) : ∀ n, 14 * n ≤ (fnsB Fs n).length
  | 0 => by simp
  | n + 1 => by
    have := fnsB_min Fs n
    have := fnB_length (Fs n)
    rw [fnsB, List.length_append]; omega
theorem inssB_min (X : Nat → Ins) : ∀ n, n ≤ (inssB X n).length
  | 0 => by simp
  | n + 1 => by
    have := inssB_min X n
    rw [inssB, List.length_append]
    unfold insB
    rw [List.length_cons]; omega
theorem enc_min (ni : Nat) (X : Nat → Ins) (nf : Nat) (Fs : Nat → Fn) (m : Int) : 12 + 14 * nf + ni ≤ (enc ni X nf Fs m).length := by
  have := fnsB_min Fs nf
  have := inssB_min X ni
  unfold enc
  simp only [List.length_append, lowB_length, List.length_cons, List.length_nil]; omega
/-- What reads, laid as a code in its box. -/
theorem read_laid {w : World} {H : Nat} {iv fv : Value} {cd : Cd} {B : Nat → UInt8} {L : Nat} (hL : L ≤ 300000000) (h : run B L pAll 0 = .good cd) (hi : IR w H iv cd.ins) (hf : FR w H fv cd.fns) :
    ∃ A c1 Bd c2, iv = .slice A cd.ins.length c1 ∧ fv = .slice Bd cd.fns.length c2 ∧ cd.ins.length ≤ c1 ∧ cd.fns.length ≤ c2 ∧ IL w (fun b => b < w.heap.size) A cd.ins.length (insF cd.ins) ∧ FL w (fun b => b < w.heap.size) Bd cd.fns.length (fnF cd.fns) := by
  obtain ⟨h1, h2, h3, h4, h5⟩ := run_good hL h
  have hm := enc_min cd.ins.length (insF cd.ins) cd.fns.length (fnF cd.fns) cd.main
  have h5' : L = (enc cd.ins.length (insF cd.ins) cd.fns.length (fnF cd.fns) cd.main).length := h5
  obtain ⟨A, c1, rfl, k1, _, _⟩ := own_shape hi
  obtain ⟨Bd, c2, rfl, k2, _, _⟩ := own_shape hf
  exact ⟨A, c1, Bd, c2, rfl, rfl, k1, k2, (hi.il h2 (by omega)).now, (hf.fl (fun f hf => ⟨(h3 f hf).1, by have := (h3 f hf).2; omega⟩) (by omega)).now⟩
theorem slc_at {B : Nat → UInt8} {L : Nat} {l : List UInt8} (h : At B L 0 l) : slc B 0 l.length = l := h.2
theorem BL.string {w : World} {G : Nat → Prop} {A : Option Addr} {L c : Nat} {B : Nat → UInt8} {l : List UInt8} (h : BL w G A L B) (ha : At B L 0 l) (hl : L = l.length) (h0 : 0 < L) : (convert 28 9 (.slice A L c)).run Try.prog w = .ok (.string (nameOf l)) w := by
  rw [bytes_string h h0]
  congr 2
  subst hl
  rw [ha.2]
set_option maxRecDepth 100000 in
set_option maxHeartbeats 16000000 in
theorem oneform_c (w : World) (G : Nat → Prop) (hG : ∀ b, G b → b < w.heap.size) (A : Option Addr) (L c : Nat) (Bf : Nat → UInt8) (hB : BL w G A L Bf) (hc : L ≤ c) (hc2 : c ≤ 9223372036854775807) :
    Calls Try.prog 7 #[.slice A L c] w fun e w' => e = .returned (.bool true) ∧ Below w.heap.size w w' := by
  by_cases hL : L ≤ 1048576
  case neg =>
    clear hB hG
    go_enter Try.func7, Try.ntmps7
    go_wp2_with fail
    go_ret
    exact ⟨rfl, Below.refl _ _⟩
  have HB := Lib.hid hB.now
  clear hB hG
  go_enter Try.func7, Try.ntmps7
  go_wp2_with fail
  refine (alive_c w).mono ?_
  rintro e w1 ⟨rfl, hb1⟩
  have B1 := Lib.hid hb1
  have H1 := Lib.hid (HB.out.below hb1).now
  clear hb1 HB
  go_wp2_with fail
  refine (read_c w1 _ (fun b h => h) A L c Bf H1.out (by omega) hc hc2).mono ?_
  rintro e w2 ⟨hb2, ⟨h, _⟩ | ⟨_, q, hq, rfl⟩ | ⟨_, cd, iv, fv, hq, rfl, hi, hf⟩⟩
  · omega
  · have hq2 := (run_bad_le pAll 0 (Nat.zero_le _) hq).2
    have B2 := Lib.hid (B1.out.trans (hb2.mono B1.out.size))
    have B3 := Lib.hid (B2.out.alloc B2.out.size (.cells #[.slice none 0 0, .slice none 0 0, .int .i64 0] 25))
    clear hb2 hq B1 H1
    unfold zeroC
    go_wp2_with (go_at_call 22; refine (num_c _ _).mono ?_; rintro e w9 ⟨rfl, rfl⟩)
    go_ret
    exact ⟨rfl, B3.out⟩
  · have RG := Lib.hid (run_good (by omega) hq)
    obtain ⟨A2, c1, D2, c2, rfl, rfl, hc1, hc2', hil, hfl⟩ := read_laid (by omega) hq hi hf
    have B2 := Lib.hid (B1.out.trans (hb2.mono B1.out.size))
    have I2 := Lib.hid hil
    have F2 := Lib.hid hfl
    have H2 := Lib.hid (H1.out.below hb2).now
    have hm := enc_min cd.ins.length (insF cd.ins) cd.fns.length (fnF cd.fns) cd.main
    have hlen : L = (enc cd.ins.length (insF cd.ins) cd.fns.length (fnF cd.fns) cd.main).length := RG.out.2.2.2.2
    rw [← hlen] at hm
    have HLEN := Lib.hid hlen
    clear hb2 hq hil hfl hi hf H1 B1 hlen
    go_wp2_with (go_at_call 22; refine (num_c _ _).mono ?_; rintro e w9 ⟨rfl, rfl⟩)
    have hb3 := (Below.refl w2.heap.size w2).alloc (Nat.le_refl _) (.cells #[.slice A2 cd.ins.length c1, .slice D2 cd.fns.length c2, .int .i64 (cd.main : Int)] 25)
    have I3 := Lib.hid (I2.out.below hb3).now
    have F3 := Lib.hid (F2.out.below hb3).now
    have H3 := Lib.hid (H2.out.below hb3).now
    have B3 := Lib.hid (B2.out.alloc B2.out.size (.cells #[.slice A2 cd.ins.length c1, .slice D2 cd.fns.length c2, .int .i64 (cd.main : Int)] 25))
    have hmn : (cd.main : Int) < cd.fns.length := RG.out.1.2.2.2.1
    clear I2 F2 H2 B2 hb3
    generalize w2.alloc (.cells #[.slice A2 cd.ins.length c1, .slice D2 cd.fns.length c2, .int .i64 (cd.main : Int)] 25) = w3 at *
    refine (write_c w3 _ (fun b h => h) A2 cd.ins.length c1 (insF cd.ins) D2 cd.fns.length c2 (fnF cd.fns) cd.main I3.out hc1 F3.out hc2' ⟨by omega, by omega⟩ (by omega) (by omega)).mono ?_
    rintro e w4 ⟨v, r, rfl, hb4, ⟨rfl, _, hv⟩ | ⟨_, hn, _⟩⟩
    case inr => exact absurd RG.out.1 hn
    obtain ⟨V, cv, rfl, _, _, _⟩ := own_shape hv
    have kv := hv.bl.string (c := cv) (at_lst _) rfl (by rw [← HLEN.out]; omega)
    have kb := (H3.out.below hb4).string (c := c) RG.out.2.2.2.1 RG.out.2.2.2.2 (by omega)
    have B4 := Lib.hid (B3.out.trans (hb4.mono B3.out.size))
    unfold encC at kb
    rw [← HLEN.out] at kv
    clear hv hb4 B3 I3 F3 H3 RG
    rw [← HLEN.out]
    generalize nameOf (enc cd.ins.length (insF cd.ins) cd.fns.length (fnF cd.fns) (cd.main : Int)) = ss at *
    go_wp2_with (go_at_call 22; refine (num_c _ _).mono ?_; rintro e w9 ⟨rfl, rfl⟩)
    go_ret
    exact ⟨rfl, B4.out⟩
end Go.Proofs.Ytafhjpehkfcmjaa
namespace Go.Proofs.Ytafhjpehkfcmjaa
open Go.RowKit
attribute [local go_sem ↓] Go.wp_at_zero Go.wp_at_succ
/-- A code in a box of the call's own. -/
structure CB (w wr : World) (G : Nat → Prop) (A : Option Addr) (ni ci : Nat) (X : Nat → Ins) (B : Option Addr) (nf cf : Nat) (Fs : Nat → Fn) (m : Int) : Prop where
  b1 : Blk wr w.heap.size 25 #[.slice A ni ci, .slice B nf cf, .int .i64 m]
  il : IL wr G A ni X
  fl : FL wr G B nf Fs
  below : Below w.heap.size w wr
section
variable {w wr w2 : World} {G : Nat → Prop} {A B : Option Addr} {ni ci nf cf : Nat} {X : Nat → Ins} {Fs : Nat → Fn} {m : Int}
theorem CB.start (hi : IL w G A ni X) (hf : FL w G B nf Fs) : CB w (w.alloc (.cells #[.slice A ni ci, .slice B nf cf, .int .i64 m] 25)) G A ni ci X B nf cf Fs m := by
  have hb := (Below.refl w.heap.size w).alloc (Nat.le_refl _) (.cells #[.slice A ni ci, .slice B nf cf, .int .i64 m] 25)
  exact ⟨Blk.new w 25 _, hi.below hb, hf.below hb, hb⟩
theorem CB.on (h : CB w wr G A ni ci X B nf cf Fs m) (hb : Below wr.heap.size wr w2) : CB w w2 G A ni ci X B nf cf Fs m :=
  ⟨h.b1.below hb h.b1.lt, h.il.below hb, h.fl.below hb, h.below.trans (hb.mono h.below.size)⟩
end
def FitsPost (ni nf : Nat) (w : World) (e : Ending) (w' : World) : Prop := ∃ r, e = .returned (.bool r) ∧ (r = true → ni ≤ 50000 ∧ nf ≤ 1000) ∧ Below w.heap.size w w'
set_option maxRecDepth 100000 in
set_option maxHeartbeats 16000000 in
theorem fits_c (w : World) (G : Nat → Prop) (A : Option Addr) (ni ci : Nat) (X : Nat → Ins) (B : Option Addr) (nf cf : Nat) (Fs : Nat → Fn) (m : Int) (hi : IL w G A ni X) (hf : FL w G B nf Fs) (hci : ni ≤ ci) (hcf : nf ≤ cf) :
    Calls Try.prog 12 #[codeV A ni ci B nf cf m] w (FitsPost ni nf w) := by
  have S0 : Hid (CB w (w.alloc (.cells #[.slice A ni ci, .slice B nf cf, .int .i64 m] 25)) G A ni ci X B nf cf Fs m) := CB.start hi hf
  have hni := hi.1
  have hnf := hf.1
  clear hi hf
  unfold codeV
  go_enter Try.func12, Try.ntmps12
  go_wp2_with fail
  go_loopw [3, 4] (fun nv kv wx => ∃ k N : Nat, k ≤ nf ∧ ni + k ≤ N ∧ N ≤ 9223372036854775807 ∧ nv = .int .i64 (N : Int) ∧ kv = .int .i64 (k : Int) ∧ Hid (CB w wx G A ni ci X B nf cf Fs m)) (fun _ kv _ => nf - (intOf kv).toNat)
  case atStart => exact ⟨0, ni, by omega, by omega, by omega, rfl, rfl, S0⟩
  case round =>
    clear S0
    obtain ⟨k, N, hk, hN, hN2, rfl, rfl, S⟩ := hrel
    have cB : wr.cell? ⟨w.heap.size, 1, none⟩ = some (.slice B nf cf) := S.out.b1.cell 1
    have hl1 := S.out.b1.lt
    by_cases hkl : k < nf
    · obtain ⟨_, hsz, b, off, rfl, _, hbl, k0, _⟩ := S.out.fl.2 k hkl
      by_cases hN3 : N ≤ 50000
      · have hq : ((((Fs k).name.size : Nat) : Int).tdiv 64) = (((Fs k).name.size / 64 : Nat) : Int) := by rw [Int.tdiv_eq_ediv_of_nonneg (by omega)]; omega
        go_wp2_with fail
        go_roundw
        case rel => exact ⟨k + 1, N + 1 + (Fs k).name.size / 64, by omega, by omega, by omega, by go_num, by go_num, S⟩
        case measure => first | (simp [intOf]; done) | (simp [intOf]; omega)
      · go_wp2_with fail
        go_ret
        exact ⟨false, rfl, fun h => (by cases h), S.out.below⟩
    · by_cases hN3 : N ≤ 50000
      · go_wp2_with fail
        go_ret
        exact ⟨decide ((nf : Int) ≤ 1000), rfl, fun h => ⟨by omega, by have := of_decide_eq_true h; omega⟩, S.out.below⟩
      · go_wp2_with fail
        go_ret
        exact ⟨false, rfl, fun h => (by cases h), S.out.below⟩
end Go.Proofs.Ytafhjpehkfcmjaa
