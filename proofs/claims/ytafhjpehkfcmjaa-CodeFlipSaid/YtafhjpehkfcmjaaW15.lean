/- code's bytes: what they are; size. -/
import Derived.Test.YtafhjpehkfcmjaaW14
set_option linter.unusedVariables false
set_option linter.unusedSimpArgs false
namespace Go.Proofs.Ytafhjpehkfcmjaa
open Go.RowKit
attribute [local go_sem ↓] Go.wp_at_zero Go.wp_at_succ
def u8 (x : Int) : UInt8 := UInt8.ofNat (x % 256).toNat
theorem u8_int (x : Int) : ((u8 x).toNat : Int) = x % 256 := by
  have h := Int.emod_nonneg x (show (256 : Int) ≠ 0 by decide)
  have h2 := Int.emod_lt_of_pos x (show (0 : Int) < 256 by decide)
  unfold u8
  rw [UInt8.toNat_ofNat']
  omega
def fnB (f : Fn) : List UInt8 := u8 f.name.size :: (f.name.data.toList ++ lowB f.frame 8 ++ lowB f.count 4 ++ lowB f.params 1)
def regN (x : Ins) : Nat → Int
  | 0 => x.a
  | 1 => x.b
  | _ => x.c
def regsB (x : Ins) : Nat → List UInt8
  | 0 => []
  | k + 1 => regsB x k ++ [u8 (regN x k)]
def regsOf (op : Int) : Nat := (shapeOf op).1.toNat
def wideOf (op : Int) : Bool := (shapeOf op).2.1
def insB (x : Ins) : List UInt8 := u8 x.op :: (regsB x (regsOf x.op) ++ if wideOf x.op then lowB x.n 8 else [])
def fnsB (Fs : Nat → Fn) : Nat → List UInt8
  | 0 => []
  | k + 1 => fnsB Fs k ++ fnB (Fs k)
def inssB (X : Nat → Ins) : Nat → List UInt8
  | 0 => []
  | k + 1 => inssB X k ++ insB (X k)
def enc (ni : Nat) (X : Nat → Ins) (nf : Nat) (Fs : Nat → Fn) (m : Int) : List UInt8 := [113, 114, 49, 54] ++ lowB nf 4 ++ lowB m 4 ++ fnsB Fs nf ++ inssB X ni
theorem regsB_length (x : Ins) : ∀ k, (regsB x k).length = k
  | 0 => rfl
  | k + 1 => by rw [regsB, List.length_append, regsB_length x k]; rfl
theorem fnB_length (f : Fn) : (fnB f).length = 14 + f.name.size := by
  simp only [fnB, List.length_cons, List.length_append, lowB_length, Array.length_toList]
  show f.name.size + 8 + 4 + 1 + 1 = _
  omega
theorem insB_length (x : Ins) : (insB x).length = 1 + regsOf x.op + if wideOf x.op then 8 else 0 := by
  simp only [insB, List.length_cons, List.length_append, regsB_length]
  cases wideOf x.op <;> simp [lowB_length] <;> omega
theorem enc_length (ni : Nat) (X : Nat → Ins) (nf : Nat) (Fs : Nat → Fn) (m : Int) : (enc ni X nf Fs m).length = 12 + (fnsB Fs nf).length + (inssB X ni).length := by
  simp only [enc, List.length_append, lowB_length]
  simp
theorem shape_cases (op : Int) : (shapeOf op).1 = (regsOf op : Int) ∧ regsOf op ≤ 3 ∧ (shapeOf op).2.1 = wideOf op := by
  have h : 0 ≤ (shapeOf op).1 ∧ (shapeOf op).1 ≤ 3 := by
    unfold shapeOf
    repeat' split
    all_goals simp
  refine ⟨?_, ?_, rfl⟩ <;> unfold regsOf <;> omega
theorem insB_le (x : Ins) : (insB x).length ≤ 12 := by
  rw [insB_length]
  have := (shape_cases x.op).2.1
  cases wideOf x.op <;> simp <;> omega
theorem inssB_le (X : Nat → Ins) : ∀ k, (inssB X k).length ≤ 12 * k
  | 0 => by simp [inssB]
  | k + 1 => by
    have := inssB_le X k
    have := insB_le (X k)
    rw [inssB, List.length_append]
    omega
theorem fnsB_le (Fs : Nat → Fn) : ∀ k, (∀ j, j < k → (Fs j).name.size ≤ 64) → (fnsB Fs k).length ≤ 78 * k
  | 0, _ => by simp [fnsB]
  | k + 1, h => by
    have := fnsB_le Fs k (fun j hj => h j (by omega))
    have := h k (by omega)
    rw [fnsB, List.length_append, fnB_length]
    omega
set_option maxRecDepth 100000 in
set_option maxHeartbeats 16000000 in
theorem size_c (w : World) (G : Nat → Prop) (A : Option Addr) (ni ci : Nat) (X : Nat → Ins) (B : Option Addr) (nf cf : Nat) (Fs : Nat → Fn) (m : Int) (hi : IL w G A ni X) (hci : ni ≤ ci) (hf : FL w G B nf Fs) (hcf : nf ≤ cf) (hm : i64in m) (hnf : nf ≤ 1000000) (hni : ni ≤ 300000000) (hnm : ∀ k, k < nf → (Fs k).name.size ≤ 64) :
    Calls Try.prog 25 #[codeV A ni ci B nf cf m] w fun e w' => e = .returned (.int .i64 ((enc ni X nf Fs m).length : Nat)) ∧ Below w.heap.size w w' := by
  have S0 := Lib.hid (DS.start hi hf #[.slice A ni ci, .slice B nf cf, .int .i64 m])
  have HF := Lib.hid (fun k hk => fnsB_le Fs k (fun j hj => hnm j (by have : k ≤ nf := hk; omega)))
  have HI := Lib.hid (inssB_le X)
  have HNM := Lib.hid hnm
  have EL := Lib.hid (enc_length ni X nf Fs m)
  obtain ⟨m1, m2⟩ := hm
  clear hi hf hnm
  unfold codeV
  go_enter Try.func25, Try.ntmps25
  go_wp2_with fail
  go_loopw [3, 14] (fun nx kv wx => ∃ k : Nat, k ≤ nf ∧ kv = .int .i64 (k : Int) ∧ (∃ s : Nat, nx = .int .i64 (s : Int) ∧ s = 12 + (fnsB Fs k).length) ∧ Hid (DS w wx G A ni X B nf Fs #[.slice A ni ci, .slice B nf cf, .int .i64 m])) (fun _ kv _ => nf - (intOf kv).toNat)
  case atStart => exact ⟨0, by omega, rfl, ⟨12, rfl, rfl⟩, S0⟩
  case round =>
    clear S0
    obtain ⟨k, hk, rfl, ⟨s, rfl, hs⟩, S⟩ := hrel
    have hsb := HF.out k hk
    have hsl : s ≤ 100000000 := by omega
    clear hsb
    by_cases hlt : k < nf
    · obtain ⟨hin, hsz, b, off, rfl, _, hbl, k0, k1, k2, k3, k4⟩ := S.out.fl.2 k hlt
      have S2 := Lib.hid (S.out.only ((Only.refl (fun _ => False) wr).alloc (.cells #[.string (Fs k).name, .int .i64 (Fs k).frame, .int .i64 (Fs k).first, .int .i64 (Fs k).count, .int .i64 (Fs k).params] 53)))
      have hz := HNM.out k hlt
      have HS : Hid (s + (14 + (Fs k).name.size) = 12 + (fnsB Fs (k + 1)).length) := by
        show s + (14 + (Fs k).name.size) = 12 + (fnsB Fs (k + 1)).length
        rw [fnsB, List.length_append, fnB_length]; omega
      clear HF HI HNM EL hs
      go_wp2_with fail
      go_roundw
      case rel => exact ⟨k + 1, by omega, by go_num, ⟨s + (14 + (Fs k).name.size), by go_num, HS⟩, S2⟩
      case measure => first | (simp [intOf]; done) | (simp [intOf]; omega)
    · have hkn : k = nf := by omega
      subst hkn
      have cA : wr.cell? ⟨w.heap.size, 0, none⟩ = some (.slice A ni ci) := S.out.b1.cell 0
      have hlb := S.out.b1.lt
      go_wp2_with fail
      clear cA hlb
      go_loopw [3, 28] (fun nx kv wx => ∃ j : Nat, j ≤ ni ∧ kv = .int .i64 (j : Int) ∧ (∃ t : Nat, nx = .int .i64 (t : Int) ∧ t = s + (inssB X j).length) ∧ Hid (DS w wx G A ni X B k Fs #[.slice A ni ci, .slice B k cf, .int .i64 m])) (fun _ kv _ => ni - (intOf kv).toNat)
      case atStart => exact ⟨0, by omega, rfl, ⟨s, rfl, rfl⟩, S⟩
      case round =>
        clear S
        obtain ⟨j, hj, rfl, ⟨t, rfl, ht⟩, S⟩ := hrel
        have htb := HI.out j
        have htl : t ≤ 5000000000 := by omega
        clear htb
        by_cases hjt : j < ni
        · obtain ⟨hin, b, off, rfl, _, hbl, k0, k1, k2, k3, k4⟩ := S.out.il.2 j hjt
          have UC := Lib.hid (fun w' => shape_c (X j).op hin.op w')
          obtain ⟨q1, q2, q3⟩ := shape_cases (X j).op
          have S2 := Lib.hid (S.out.only ((Only.refl (fun _ => False) wr).alloc (.cells #[.int .i64 (X j).op, .int .i64 (X j).a, .int .i64 (X j).b, .int .i64 (X j).c, .int .i64 (X j).n] 41)))
          have HS : Hid (t + (insB (X j)).length = s + (inssB X (j + 1)).length) := by
            show t + (insB (X j)).length = s + (inssB X (j + 1)).length
            rw [inssB, List.length_append]; omega
          rw [insB_length] at HS
          rw [q1, q3] at UC
          clear HF HI HNM EL hs ht q1 q3
          generalize regsOf (X j).op = r at *
          have hr : r ≤ 3 := q2
          cases hw : wideOf (X j).op with
          | true =>
            rw [hw] at HS UC
            go_wp2_with (first
              | (go_at_call 27; refine (UC.out _).mono ?_; rintro e w2 ⟨rfl, hw2⟩; subst w2))
            go_roundw
            case rel => exact ⟨j + 1, by omega, by go_num, ⟨t + (1 + r + 8), by go_num, HS⟩, S2⟩
            case measure => first | (simp [intOf]; done) | (simp [intOf]; omega)
          | false =>
            rw [hw] at HS UC
            go_wp2_with (first
              | (go_at_call 27; refine (UC.out _).mono ?_; rintro e w2 ⟨rfl, hw2⟩; subst w2))
            go_roundw
            case rel => exact ⟨j + 1, by omega, by go_num, ⟨t + (1 + r + 0), by go_num, HS⟩, S2⟩
            case measure => first | (simp [intOf]; done) | (simp [intOf]; omega)
        · have hjn : j = ni := by omega
          subst hjn
          have E : Hid (t = (enc j X k Fs m).length) := by show t = (enc j X k Fs m).length; rw [EL.out]; omega
          go_wp2_with fail
          go_ret
          exact ⟨by rw [← E.out]; rfl, S.out.below⟩
end Go.Proofs.Ytafhjpehkfcmjaa
