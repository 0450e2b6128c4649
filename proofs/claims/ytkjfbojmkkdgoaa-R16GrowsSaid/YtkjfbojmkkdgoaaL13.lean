/- r16's statements: two outcomes that are the same. -/
import Derived.Test.YtkjfbojmkkdgoaaL4
import Derived.BigQuiet
set_option linter.unusedVariables false
set_option linter.unusedSimpArgs false
namespace Go.Proofs.Ytkjfbojmkkdgoaa
open Go.RowKit
attribute [local go_sem ↓] Go.wp_at_zero Go.wp_at_succ
theorem evs_at2 : ∀ (xs : List (Int × Int)) (i : Nat) (e : Int × Int), xs[i]? = some e → (evs xs)[2 * i]? = some (.int .i64 e.1) ∧ (evs xs)[2 * i + 1]? = some (.int .i64 e.2)
  | [], i, e, h => by simp at h
  | x :: xs, 0, e, h => by
    have : x = e := by simpa using h
    subst this
    exact ⟨rfl, rfl⟩
  | x :: xs, i + 1, e, h => by
    have h2 : xs[i]? = some e := by simpa using h
    obtain ⟨a, b⟩ := evs_at2 xs i e h2
    have e1 : 2 * (i + 1) = 2 * i + 1 + 1 := by omega
    rw [e1]
    exact ⟨a, b⟩
structure SM (w wr : World) (F1 F2 : Nat → Prop) (v1 v2 : Value) (n : Nat) (xs : List (Int × Int)) (c1 c2 : Array Value) : Prop where
  b1 : Blk wr w.heap.size 44 c1
  b2 : Blk wr (w.heap.size + 1) 44 c2
  r1 : Row wr F1 50 2 v1 n (evs xs)
  r2 : Row wr F2 50 2 v2 n (evs xs)
  below : Below w.heap.size w wr
theorem SM.quiet {w wr : World} {F1 F2 : Nat → Prop} {v1 v2 : Value} {n : Nat} {xs : List (Int × Int)} {c1 c2 : Array Value} (h : SM w wr F1 F2 v1 v2 n xs c1 c2) (q : Nat) : SM w (wr.drewN q) F1 F2 v1 v2 n xs c1 c2 :=
  have o : Only (fun _ => False) wr (wr.drewN q) := (Only.refl _ wr).drewN q
  ⟨h.b1.only o (fun h => h), h.b2.only o (fun h => h), h.r1.tr o (fun _ _ h => ⟨fun h => h, h⟩), h.r2.tr o (fun _ _ h => ⟨fun h => h, h⟩), h.below.trans (o.toBelow h.below.size fun _ _ h => h)⟩
set_option maxRecDepth 100000 in
set_option maxHeartbeats 16000000 in
theorem same_yes (w : World) (F1 F2 : Nat → Prop) (A A' : Option Addr) (n c c' : Nat) (xs : List (Int × Int)) (hx : xs.length = n) (fi k v S t d : Int) (h1 : Row w F1 50 2 (.slice A n c) n (evs xs)) (h2 : Row w F2 50 2 (.slice A' n c') n (evs xs)) (hn : n ≤ 1048576) :
    Calls Try.prog 23 #[.agg #[.slice A n c, .int .i64 fi, .int .i64 k, .int .i64 v, .int .i64 S, .int .i64 t, .int .i64 d], .agg #[.slice A' n c', .int .i64 fi, .int .i64 k, .int .i64 v, .int .i64 S, .int .i64 t, .int .i64 d]] w fun e w' => e = .returned (.bool true) ∧ Below w.heap.size w w' := by
  have S0 : Hid (SM w ((w.alloc (.cells #[.slice A n c, .int .i64 fi, .int .i64 k, .int .i64 v, .int .i64 S, .int .i64 t, .int .i64 d] 44)).alloc (.cells #[.slice A' n c', .int .i64 fi, .int .i64 k, .int .i64 v, .int .i64 S, .int .i64 t, .int .i64 d] 44)) F1 F2 (.slice A n c) (.slice A' n c') n xs #[.slice A n c, .int .i64 fi, .int .i64 k, .int .i64 v, .int .i64 S, .int .i64 t, .int .i64 d] #[.slice A' n c', .int .i64 fi, .int .i64 k, .int .i64 v, .int .i64 S, .int .i64 t, .int .i64 d]) := by
    have o : Only (fun _ => False) w ((w.alloc (.cells #[.slice A n c, .int .i64 fi, .int .i64 k, .int .i64 v, .int .i64 S, .int .i64 t, .int .i64 d] 44)).alloc (.cells #[.slice A' n c', .int .i64 fi, .int .i64 k, .int .i64 v, .int .i64 S, .int .i64 t, .int .i64 d] 44)) := ((Only.refl _ w).alloc _).alloc _
    exact ⟨(blk_at rfl).alloc _, blk_at (by simp), h1.tr o (fun _ _ h => ⟨fun h => h, h⟩), h2.tr o (fun _ _ h => ⟨fun h => h, h⟩), o.toBelow (Nat.le_refl _) fun _ _ h => h⟩
  have HX := Lib.hid hx
  have HN := Lib.hid hn
  clear h1 h2 hx hn
  go_enter Try.func23, Try.ntmps23
  go_wp2_with fail
  go_loopw [5] (fun jv wx => ∃ j : Nat, j ≤ n ∧ jv = .int .i64 (j : Int) ∧ Hid (SM w wx F1 F2 (.slice A n c) (.slice A' n c') n xs #[.slice A n c, .int .i64 fi, .int .i64 k, .int .i64 v, .int .i64 S, .int .i64 t, .int .i64 d] #[.slice A' n c', .int .i64 fi, .int .i64 k, .int .i64 v, .int .i64 S, .int .i64 t, .int .i64 d])) (fun jv _ => n - (intOf jv).toNat)
  case atStart => exact ⟨0, by omega, rfl, S0⟩
  case round =>
    clear S0
    obtain ⟨j, hj, rfl, S1⟩ := hrel
    have cA : wr.cell? ⟨w.heap.size, 0, none⟩ = some (.slice A n c) := S1.out.b1.cell 0
    have cA2 : wr.cell? ⟨w.heap.size + 1, 0, none⟩ = some (.slice A' n c') := S1.out.b2.cell 0
    by_cases hjl : j < n
    · obtain ⟨b, cap, hA, -⟩ := S1.out.r1.form (by omega)
      obtain ⟨b', cap', hA', -⟩ := S1.out.r2.form (by omega)
      injection hA with hA hA1 hA2
      injection hA' with hA' hA1' hA2'
      subst hA hA' hA2 hA2'
      have ej : xs[j]? = some (xs[j]'(by rw [HX.out]; exact hjl)) := List.getElem?_eq_getElem _
      obtain ⟨a0, a1⟩ := evs_at2 xs j _ ej
      generalize xs[j]'(by rw [HX.out]; exact hjl) = e at *
      have k0 := S1.out.r1.cell a0
      have k1 := S1.out.r1.cell a1
      have l0 := S1.out.r2.cell a0
      have l1 := S1.out.r2.cell a1
      obtain ⟨e0, e1⟩ := e
      simp only [Nat.mul_comm 2 j] at k0 k1 l0 l1
      have SQ := Lib.hid (fun q => S1.out.quiet q)
      have hnn : (j : Int) + 1 ≤ 9223372036854775807 := by have := HN.out; omega
      clear S1 a0 a1 ej
      go_wp2_with fail
      go_quiet (fail)
      go_wp2_with fail
      go_roundw
      case rel => exact ⟨j + 1, by omega, by go_num, SQ.out _⟩
      case measure => first | (simp [intOf]; done) | (simp [intOf]; omega)
    · clear HN HX
      go_wp2_with fail
      go_ret
      exact ⟨rfl, S1.out.below⟩
end Go.Proofs.Ytkjfbojmkkdgoaa
