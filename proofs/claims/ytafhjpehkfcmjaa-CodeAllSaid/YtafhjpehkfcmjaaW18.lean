/- the document's Size: the walk. -/
import Derived.Test.YtafhjpehkfcmjaaW17
import Derived.Test.YtafhjpehkfcmjaaP2
set_option linter.unusedVariables false
set_option linter.unusedSimpArgs false
namespace Go.Proofs.Ytafhjpehkfcmjaa
open Go.RowKit
attribute [local go_sem ↓] Go.wp_at_zero Go.wp_at_succ
def fl (r : Nat) (wd : Bool) : Nat → Bool
  | 0 => decide (0 < r)
  | 1 => decide (1 < r)
  | 2 => decide (2 < r)
  | _ => wd
theorem fl_at (r : Nat) (wd : Bool) : ∀ i, i < 3 → fl r wd i = decide (i < r)
  | 0, _ => rfl
  | 1, _ => rfl
  | 2, _ => rfl
  | n + 3, h => by omega
theorem dflags_fl {op : Int} (h : (usesOf op).2 = true) : dflags op = uV (fl (regsOf op) (wideOf op)) := by
  rw [dflags_uses op h]
  obtain ⟨k, rfl, h1, h2⟩ := uses_in h
  obtain ⟨_, e1, e2, e3, e4⟩ := op_cases h1 h2
  rw [e1, e2, e3, e4]
  rfl
theorem CodeOk.ops {ni : Nat} {X : Nat → Ins} {nf : Nat} {Fs : Nat → Fn} {m : Int} (h : CodeOk ni X nf Fs m) : ∀ j, j < ni → (usesOf (X j).op).2 = true := by
  have key : ∀ k, k ≤ nf → (0 ≤ firstOf Fs k ∧ ∀ j : Nat, (j : Int) < firstOf Fs k → (usesOf (X j).op).2 = true) := by
    intro k
    induction k with
    | zero => intro _; exact ⟨Int.le_refl _, fun j hj => by rw [firstOf] at hj; omega⟩
    | succ k ih =>
      intro hk
      obtain ⟨h0, h1⟩ := ih (by omega)
      obtain ⟨a1, a2, a3, a4, a5⟩ := h.1 k hk
      rw [firstOf]
      refine ⟨by omega, fun j hj => ?_⟩
      by_cases hj2 : (j : Int) < firstOf Fs k
      · exact h1 j hj2
      · have := a5.2.2.2.2.2.1 (j - (firstOf Fs k).toNat) (by omega)
        rw [show (firstOf Fs k).toNat + (j - (firstOf Fs k).toNat) = j by omega] at this
        unfold insOk at this
        simp only [Bool.and_eq_true] at this
        exact this.1.1.1.1
  intro j hj
  have := h.2.1
  exact (key nf (Nat.le_refl _)).2 j (by omega)
set_option maxRecDepth 100000 in
set_option maxHeartbeats 16000000 in
theorem dsize_c (w : World) (G : Nat → Prop) (A : Option Addr) (ni ci : Nat) (X : Nat → Ins) (B : Option Addr) (nf cf : Nat) (Fs : Nat → Fn) (m : Int) (hi : IL w G A ni X) (hci : ni ≤ ci) (hf : FL w G B nf Fs) (hcf : nf ≤ cf) (hm : i64in m) (hnf : nf ≤ 1000000) (hni : ni ≤ 300000000) (hnm : ∀ k, k < nf → (Fs k).name.size ≤ 64) (hops : ∀ j, j < ni → (usesOf (X j).op).2 = true) :
    Calls Try.prog 32 #[codeV A ni ci B nf cf m] w fun e w' => e = .returned (.int .i64 ((enc ni X nf Fs m).length : Nat)) ∧ Below w.heap.size w w' := by
  have S0 := Lib.hid (DS.start hi hf #[.slice A ni ci, .slice B nf cf, .int .i64 m])
  have HF := Lib.hid (fun k hk => fnsB_le Fs k (fun j hj => hnm j (by have : k ≤ nf := hk; omega)))
  have HI := Lib.hid (inssB_le X)
  have HNM := Lib.hid hnm
  have HOP := Lib.hid hops
  have EL := Lib.hid (enc_length ni X nf Fs m)
  obtain ⟨m1, m2⟩ := hm
  clear hi hf hnm hops
  unfold codeV
  go_enter Try.func32, Try.ntmps32
  go_wp2_with fail
  go_loopw [3, 4] (fun nx kv wx => ∃ k : Nat, k ≤ nf ∧ kv = .int .i64 (k : Int) ∧ (∃ s : Nat, nx = .int .i64 (s : Int) ∧ s = 12 + (fnsB Fs k).length) ∧ Hid (DS w wx G A ni X B nf Fs #[.slice A ni ci, .slice B nf cf, .int .i64 m])) (fun _ kv _ => nf - (intOf kv).toNat)
  case atStart => exact ⟨0, by omega, rfl, ⟨12, rfl, rfl⟩, S0⟩
  case round =>
    clear S0
    obtain ⟨k, hk, rfl, ⟨s, rfl, hs⟩, S⟩ := hrel
    have hsb := HF.out k hk
    have hsl : s ≤ 100000000 := by omega
    clear hsb
    have cB : wr.cell? ⟨w.heap.size, 1, none⟩ = some (.slice B nf cf) := S.out.b1.cell 1
    have hlb := S.out.b1.lt
    by_cases hlt : k < nf
    · obtain ⟨hin, hsz, b, off, rfl, _, hbl, k0, k1, k2, k3, k4⟩ := S.out.fl.2 k hlt
      have hz := HNM.out k hlt
      have HS : Hid (s + 14 + (Fs k).name.size = 12 + (fnsB Fs (k + 1)).length) := by
        show s + 14 + (Fs k).name.size = 12 + (fnsB Fs (k + 1)).length
        rw [fnsB, List.length_append, fnB_length]; omega
      clear HF HI HNM EL hs HOP
      go_wp2_with fail
      go_roundw
      case rel => exact ⟨k + 1, by omega, by go_num, ⟨s + 14 + (Fs k).name.size, by go_num, HS⟩, S⟩
      case measure => first | (simp [intOf]; done) | (simp [intOf]; omega)
    · have hkn : k = nf := by omega
      subst hkn
      go_wp2_with fail
      clear cB hlb
      go_loopw [3, 5] (fun nx kv wx => ∃ j : Nat, j ≤ ni ∧ kv = .int .i64 (j : Int) ∧ (∃ t : Nat, nx = .int .i64 (t : Int) ∧ t = s + (inssB X j).length) ∧ Hid (DS w wx G A ni X B k Fs #[.slice A ni ci, .slice B k cf, .int .i64 m])) (fun _ kv _ => ni - (intOf kv).toNat)
      case atStart => exact ⟨0, by omega, rfl, ⟨s, rfl, rfl⟩, S⟩
      case round =>
        clear S
        obtain ⟨j, hj, rfl, ⟨t, rfl, ht⟩, S⟩ := hrel
        have htb := HI.out j
        have htl : t ≤ 5000000000 := by omega
        clear htb
        have cA : wr.cell? ⟨w.heap.size, 0, none⟩ = some (.slice A ni ci) := S.out.b1.cell 0
        have hlb := S.out.b1.lt
        by_cases hjt : j < ni
        · obtain ⟨hin, b, off, rfl, _, hbl, k0, k1, k2, k3, k4⟩ := S.out.il.2 j hjt
          have FC := Lib.hid (fun w' => fields_c (X j).op hin.op w')
          have hok := HOP.out j hjt
          rw [dflags_fl hok] at FC
          obtain ⟨_, q2, _⟩ := shape_cases (X j).op
          have LEN := Lib.hid (insB_length (X j))
          have HS : Hid (s + (inssB X (j + 1)).length = t + (insB (X j)).length) := by
            show _ = _
            rw [inssB, List.length_append]; omega
          rw [LEN.out] at HS
          clear HF HI HNM EL hs ht HOP hin hok LEN
          generalize regsOf (X j).op = r at *
          generalize wideOf (X j).op = wd at *
          have F0 : Hid (fl r wd 3 = wd) := rfl
          have FA := Lib.hid (fl_at r wd)
          generalize fl r wd = u at *
          unfold uV at FC
          obtain ⟨wo, rfl⟩ : ∃ x, x = wr := ⟨_, rfl⟩
          go_wp2_with (first
            | (go_at_call 34; refine (FC.out _).mono ?_; rintro e w2 ⟨rfl, hb2⟩; have S2 := Lib.hid (S.out.only (Only.ofBelow hb2)); clear hb2))
          have S3 := Lib.hid (S2.out.only ((Only.refl (fun _ => False) w2).alloc (.cells #[.bool (u 0), .bool (u 1), .bool (u 2), .bool (u 3)] 72)))
          have B3 : Hid (Blk (w2.alloc (.cells #[.bool (u 0), .bool (u 1), .bool (u 2), .bool (u 3)] 72)) w2.heap.size 72 (uV u)) := Blk.new w2 72 (uV u)
          clear S S2 FC cA k0 k1 k2 k3 k4
          go_loopw [3, 8] (fun nx iv wx => ∃ i : Nat, i ≤ 3 ∧ iv = .int .i64 (i : Int) ∧ (∃ q : Nat, nx = .int .i64 (q : Int) ∧ q = t + 1 + min i r) ∧ Hid (DS w wx G (some ⟨b, off, none⟩) ni X B k Fs #[.slice (some ⟨b, off, none⟩) ni ci, .slice B k cf, .int .i64 m]) ∧ Hid (Blk wx w2.heap.size 72 (uV u))) (fun _ iv _ => 3 - (intOf iv).toNat)
          case atStart => exact ⟨0, by omega, rfl, ⟨t + 1, by go_num, by omega⟩, S3, B3⟩
          case round =>
            clear S3 B3
            obtain ⟨i, hi3, rfl, ⟨q, rfl, hq⟩, S, BU⟩ := hrel
            have hlu := BU.out.lt
            by_cases hit : i < 3
            · have cu : wr.cell? ⟨w2.heap.size, i, none⟩ = some (.bool (u i)) := (BU.out.cell i).trans (uV_at u i (by omega))
              rw [FA.out i hit] at cu
              by_cases hir : i < r
              · rw [decide_eq_true hir] at cu
                go_wp2_with fail
                go_roundw
                case rel => exact ⟨i + 1, by omega, by go_num, ⟨q + 1, by go_num, by omega⟩, S, BU⟩
                case measure => first | (simp [intOf]; done) | (simp [intOf]; omega)
              · rw [decide_eq_false hir] at cu
                go_wp2_with fail
                go_roundw
                case rel => exact ⟨i + 1, by omega, by go_num, ⟨q, by go_num, by omega⟩, S, BU⟩
                case measure => first | (simp [intOf]; done) | (simp [intOf]; omega)
            · have hi' : i = 3 := by omega
              subst hi'
              have cu : wr.cell? ⟨w2.heap.size, 3, none⟩ = some (.bool (u 3)) := BU.out.cell 3
              rw [F0.out] at cu
              cases wd with
              | true =>
                have HT : Hid (q + 8 = s + (inssB X (j + 1)).length) := by
                  have := HS.out
                  simp only [if_true] at this
                  show _ = _
                  omega
                clear HS
                go_wp2_with fail
                go_roundw
                case rel => exact ⟨j + 1, by omega, by go_num, ⟨q + 8, by go_num, HT⟩, S⟩
                case measure => first | (simp [intOf]; done) | (simp [intOf]; omega)
              | false =>
                have HT : Hid (q = s + (inssB X (j + 1)).length) := by
                  have := HS.out
                  simp only [Bool.false_eq_true, if_false] at this
                  show _ = _
                  omega
                clear HS
                go_wp2_with fail
                go_roundw
                case rel => exact ⟨j + 1, by omega, by go_num, ⟨q, by go_num, HT⟩, S⟩
                case measure => first | (simp [intOf]; done) | (simp [intOf]; omega)
        · have hjn : j = ni := by omega
          subst hjn
          have E : Hid (t = (enc j X k Fs m).length) := by show t = (enc j X k Fs m).length; rw [EL.out]; omega
          go_wp2_with fail
          go_ret
          exact ⟨by rw [← E.out]; rfl, S.out.below⟩
end Go.Proofs.Ytafhjpehkfcmjaa
