/- same, heavy: what they tell. -/
import Derived.Test.YtdpeckfdilpidaaW1
set_option linter.unusedVariables false
set_option linter.unusedSimpArgs false
namespace Go.Proofs.Ytdpeckfdilpidaa
open Go.RowKit
attribute [local go_sem ↓] Go.wp_at_zero Go.wp_at_succ
def Told (v : Value) (w : World) (e : Ending) (w' : World) : Prop := e = .returned v ∧ ∃ n, w' = w.drewN n
theorem getD_ext {l m : List Int} (h : l.length = m.length) (he : ∀ j, j < l.length → l.getD j 0 = m.getD j 0) : l = m := by
  apply List.ext_getElem h
  intro i h1 h2
  have := he i h1
  rw [List.getD_eq_getElem?_getD, List.getD_eq_getElem?_getD, List.getElem?_eq_getElem h1, List.getElem?_eq_getElem h2] at this
  exact this
set_option maxRecDepth 100000 in
set_option maxHeartbeats 4000000 in
theorem same_c (w : World) (G G' : Nat → Prop) (A B : Option Addr) (l m : List Int) (ca cb : Nat) (h : RL w G A l) (h' : RL w G' B m) :
    Calls Try.prog 14 #[.slice A l.length ca, .slice B m.length cb] w (Told (.bool (decide (l = m))) w) := by
  by_cases hne : l.length = m.length
  · have E1 := Lib.hid (fun (hh : ∀ j, j < l.length → l.getD j 0 = m.getD j 0) (n : Nat) => show Told (.bool (decide (l = m))) w (.returned (.bool true)) (w.drewN n) from ⟨by rw [decide_eq_true (getD_ext hne hh)], n, rfl⟩)
    have E2 := Lib.hid (fun (j : Nat) (hh : l.getD j 0 ≠ m.getD j 0) (n : Nat) => show Told (.bool (decide (l = m))) w (.returned (.bool false)) (w.drewN n) from ⟨by rw [decide_eq_false (fun e => hh (by rw [e]))], n, rfl⟩)
    have C := Lib.hid h.2
    have C' := Lib.hid h'.2
    have hb := h.1
    rw [← hne] at C' ⊢
    clear h h' hne
    generalize l.length = k at *
    generalize decide (l = m) = r at *
    have hkk : ((k : Int) != (k : Int)) = false := bne_self_eq_false _
    go_enter Try.func14, Try.ntmps14
    go_wp2
    go_loopw [5] (fun i wr => ∃ t n : Nat, t ≤ k ∧ i = .int .i64 (t : Int) ∧ wr = w.drewN n ∧ Hid (∀ j, j < t → l.getD j 0 = m.getD j 0)) (fun i _ => k - (intOf i).toNat)
    case atStart => exact ⟨0, 0, by omega, rfl, rfl, fun j hj => absurd hj (Nat.not_lt_zero _)⟩
    case round =>
      obtain ⟨t, n, ht, rfl, rfl, HH⟩ := hrel
      by_cases htk : t < k
      · obtain ⟨_, b, off, rfl, _, _, c1⟩ := C.out t htk
        obtain ⟨_, b', off', rfl, _, _, c2⟩ := C'.out t htk
        by_cases he : l.getD t 0 = m.getD t 0
        · have HN : Hid (∀ j, j < t + 1 → l.getD j 0 = m.getD j 0) := fun j hj => by
            by_cases hj' : j = t
            · rw [hj']; exact he
            · exact HH.out j (by omega)
          rw [← he] at c2
          clear C C' E1 E2 HH he
          generalize l.getD t 0 = y at *
          have hyy : (y != y) = false := bne_self_eq_false _
          go_wp2
          go_quiet (fail)
          go_wp2
          go_roundw
          case rel => exact ⟨t + 1, _, by omega, by go_num, by first | rfl | exact World.drewN_drewN _ _ _, HN⟩
          case measure => simp [intOf]; omega
        · have E := Lib.hid (E2.out t he)
          have hyy : (l.getD t 0 != m.getD t 0) = true := bne_iff_ne.2 he
          clear C C' E1 E2 HH
          generalize l.getD t 0 = y1 at *
          generalize m.getD t 0 = y2 at *
          clear he
          go_wp2
          go_quiet (fail)
          go_wp2
          go_ret
          rw [World.drewN_drewN]
          exact E.out _
      · have HN : Hid (∀ j, j < k → l.getD j 0 = m.getD j 0) := fun j hj => HH.out j (by omega)
        have E := Lib.hid (E1.out HN.out)
        clear C C' E1 E2 HH
        go_wp2
        go_ret
        exact E.out _
  · have E := Lib.hid (show Told (.bool (decide (l = m))) w (.returned (.bool false)) w from ⟨by rw [decide_eq_false (fun e => hne (by rw [e]))], 0, rfl⟩)
    have hb : ((l.length : Int) != (m.length : Int)) = true := bne_iff_ne.2 (by omega)
    clear h h' hne
    go_enter Try.func14, Try.ntmps14
    go_wp2
    go_ret
    exact E.out
/-- How many blocks and ways there are among the first k lists. -/
def waysOf (X : Nat → List Int) (len k : Nat) : Nat := len + tot (fun j => (X j).length) k
theorem tot_mono (f : Nat → Nat) {a b : Nat} (h : a ≤ b) : tot f a ≤ tot f b := by
  induction h with
  | refl => exact Nat.le_refl _
  | step _ ih => exact Nat.le_trans ih (Nat.le_add_right _ _)
set_option maxRecDepth 100000 in
set_option maxHeartbeats 4000000 in
theorem heavy_c (w : World) (G : Nat → Prop) (A : Option Addr) (len cap : Nat) (X : Nat → List Int) (h : RLL w G A len X) (most : Nat) (hm : most ≤ 1000000) (hs : ∀ k, k < len → (X k).length ≤ 4611686018427387904) (hl : len ≤ 4611686018427387904) :
    Calls Try.prog 10 #[.slice A len cap, .int .i64 (most : Int)] w fun e w' => e = .returned (.bool (decide (most < waysOf X len len))) ∧ w = w' := by
  have C := Lib.hid h.at_
  have HS := Lib.hid hs
  clear h hs
  have hw0 : waysOf X len 0 = len := rfl
  have E1 := Lib.hid (fun (t : Nat) (h1 : t ≤ len) (h2 : most < waysOf X len t) => show decide (most < waysOf X len len) = true from decide_eq_true (Nat.lt_of_lt_of_le h2 (by have := tot_mono (fun j => (X j).length) h1; unfold waysOf; omega)))
  have E2 := Lib.hid (fun (h2 : ¬ most < waysOf X len len) => show decide (most < waysOf X len len) = false from decide_eq_false h2)
  have ST := Lib.hid (fun t => show waysOf X len (t + 1) = waysOf X len t + (X t).length from by unfold waysOf; rw [tot]; omega)
  have HW0 := Lib.hid hw0
  clear hw0
  generalize hr : decide (most < waysOf X len len) = r at *
  have HR := Lib.hid hr
  clear hr
  go_enter Try.func10, Try.ntmps10
  go_wp2
  go_loop [5, 6] (fun n i => ∃ t u : Nat, t ≤ len ∧ i = .int .i64 (t : Int) ∧ n = .int .i64 (u : Int) ∧ Hid (u = waysOf X len t)) (fun _ i => len - (intOf i).toNat)
  case atStart => exact ⟨0, len, by omega, rfl, rfl, HW0.out.symm⟩
  case round =>
    obtain ⟨t, u, ht, rfl, rfl, HU⟩ := hrel
    by_cases htk : t < len
    · by_cases hu : u ≤ most
      · obtain ⟨b, off, Ak, ck, rfl, _, _, c1, _⟩ := C.out t htk
        have hx := HS.out t htk
        have hst := ST.out t
        rw [← HU.out] at hst
        have HN := Lib.hid hst
        clear C HS E1 E2 ST hst
        generalize (X t).length = y at *
        go_wp2
        go_round
        case rel => exact ⟨t + 1, u + y, by omega, by go_num, by go_num, HN.out.symm⟩
        case measure => simp [intOf]; omega
      · have E := Lib.hid (E1.out t ht (by rw [← HU.out]; omega))
        clear C HS E1 E2 ST
        go_wp2
        go_ret
        exact ⟨by rw [E.out]; exact congrArg (fun b => Ending.returned (Value.bool b)) (decide_eq_true (by omega)), rfl⟩
    · obtain rfl : t = len := by omega
      by_cases hu : u ≤ most
      · have E := Lib.hid (E2.out (by rw [← HU.out]; omega))
        clear C HS E1 E2 ST
        go_wp2
        go_ret
        exact ⟨by rw [E.out]; exact congrArg (fun b => Ending.returned (Value.bool b)) (decide_eq_false (by omega)), rfl⟩
      · have E := Lib.hid (E1.out t ht (by rw [← HU.out]; omega))
        clear C HS E1 E2 ST
        go_wp2
        go_ret
        exact ⟨by rw [E.out]; exact congrArg (fun b => Ending.returned (Value.bool b)) (decide_eq_true (by omega)), rfl⟩
end Go.Proofs.Ytdpeckfdilpidaa
