/- The laws that play a script on one pair: HeapMakes, HeapWords. -/
import Derived.Test.YtoakmifihofpeaaW11
import Derived.Test.YtoakmifihofpeaaArgs
set_option linter.unusedVariables false
set_option linter.unusedSimpArgs false
namespace Go.Proofs.Ytoakmifihofpeaa
open Go.RowKit
attribute [local go_sem ↓] Go.wp_at_zero Go.wp_at_succ
theorem Going.next {B p k : Nat} {w wr W : World} {e : Ending} (h : Going B p k w wr) (hB : B ≤ wr.heap.size) (hp : PlayPost wr (fun b => B ≤ b ∧ b < wr.heap.size) p k e W) : Going B p (k + 1) w W := by
  obtain ⟨h1, h2⟩ := h
  have hs := hp.2.2.size
  refine ⟨h1.trans (hp.2.2.toBelow hB fun k hk hf => by omega), PairAt.played (i := 0) (k := 0) (who := 0) (near := 0) (a := 0) (x := 0) hp fun b hb hf => ?_⟩
  rcases hf with hf | hf
  · exact ⟨hf.1, hb⟩
  · exact ⟨by omega, hb⟩
theorem Going.skip {B p k : Nat} {w wr : World} (h : Going B p k w wr) (hk : k + 1 < 900000) : Going B p (k + 1) w wr := by
  obtain ⟨h1, q, r, l, F1, F2, F3, g, gr, v, h2⟩ := h
  exact ⟨h1, q, r, l, F1, F2, F3, g, gr, v, h2.up hk⟩
theorem fits_c (A : Option Addr) (len cap : Nat) (w : World) : Calls Try.prog 9 #[.slice A len cap] w fun e w' => e = .returned (.bool (decide ((len : Int) ≤ 5000))) ∧ w = w' := by
  go_enter Try.func9, Try.ntmps9
  go_wp2
  go_ret
  exact ⟨rfl, rfl⟩
theorem wfb {n : Int} (h : (Lit.int .i64 n).wf = true) : i64in n := of_wf h
set_option maxRecDepth 100000 in
set_option maxHeartbeats 4000000 in
theorem holds_c (A : Option Addr) (len cap : Nat) (F : Nat → Nat → Int) (lo hi : Int) (w : World) (h : RS w 6 A len F) :
    Calls Try.prog 8 #[.slice A len cap, .int .i64 lo, .int .i64 hi] w fun e w' => e = .returned (.bool true) ∧ Below w.heap.size w w' := by
  obtain ⟨h1, h2, h3⟩ := h
  have H3 := Lib.hid h3
  have H2 := Lib.hid h2
  have FC := Lib.hid (fits_c A len cap w)
  clear h2 h3
  by_cases hlen : 5000 < len
  · have hd : decide ((len : Int) ≤ 5000) = false := decide_eq_false (by omega)
    go_enter Try.func8, Try.ntmps8
    go_wp2_with (go_at_call 9; refine FC.out.mono ?_; rintro e w1 ⟨rfl, rfl⟩)
    go_ret
    exact ⟨rfl, Below.refl _ _⟩
  · have hd : decide ((len : Int) ≤ 5000) = true := decide_eq_true (by omega)
    go_enter Try.func8, Try.ntmps8
    go_wp2_with (go_at_call 9; refine FC.out.mono ?_; rintro e w1 ⟨rfl, rfl⟩)
    refine (alive_c _).mono ?_
    rintro e w1 ⟨rfl, hb1⟩
    have HB1 := Lib.hid hb1
    clear hb1
    go_wp2_with fail
    refine (made_c w1).mono ?_
    rintro e w2 ⟨p, rfl, hp, hb⟩
    have hs1 : w.heap.size ≤ w1.heap.size := HB1.out.size
    have E : Hid (Going w.heap.size p 0 w w2) := ⟨HB1.out.trans (hb.mono hs1), hp.more fun b hb hf => ⟨by omega, hb⟩⟩
    clear hp hb HB1
    go_wp2_with fail
    go_loopw [9, 10] (fun x i wr => ∃ k : Nat, k ≤ len ∧ i = .int .i64 (k : Int) ∧ x = .bool true ∧ Hid (Going w.heap.size p k w wr)) (fun _ i _ => len - (intOf i).toNat)
    case atStart => exact ⟨0, by omega, rfl, rfl, E⟩
    case round =>
      obtain ⟨k, hk, rfl, rfl, HR⟩ := hrel
      by_cases hlt : k < len
      · obtain ⟨b, off, rfl, hbl⟩ := H2.out (by omega)
        have c0 : wr.cell? ⟨b, off + k * 6, none⟩ = _ := (HR.out.1.cell hbl).trans ((H3.out k hlt 0 (by omega)).2 b off rfl)
        have c1 := (HR.out.1.cell hbl).trans ((H3.out k hlt 1 (by omega)).2 b off rfl)
        have c2 := (HR.out.1.cell hbl).trans ((H3.out k hlt 2 (by omega)).2 b off rfl)
        have c3 := (HR.out.1.cell hbl).trans ((H3.out k hlt 3 (by omega)).2 b off rfl)
        have c4 := (HR.out.1.cell hbl).trans ((H3.out k hlt 4 (by omega)).2 b off rfl)
        have c5 := (HR.out.1.cell hbl).trans ((H3.out k hlt 5 (by omega)).2 b off rfl)
        have N := Lib.hid (fun j (hj : j < 6) => wfb (H3.out k hlt j hj).1)
        have hws : w.heap.size ≤ wr.heap.size := HR.out.1.size
        have PC := Lib.hid (plays_c wr _ p k HR.out.2 (fun b h => h.2) (by omega) (F k 0) (F k 1) (F k 2) (F k 3) (F k 4) (F k 5) (N.out 3 (by omega)) (N.out 2 (by omega)) (N.out 5 (by omega)))
        have SK : Hid (Going w.heap.size p (k + 1) w wr) := HR.out.skip (by omega)
        clear N E
        generalize F k 0 = y0 at *
        generalize F k 1 = y1 at *
        generalize F k 2 = y2 at *
        generalize F k 3 = y3 at *
        generalize F k 4 = y4 at *
        generalize F k 5 = y5 at *
        clear H3 H2
        by_cases hp : y0 ≤ 2 ∨ (lo ≤ y0 ∧ y0 ≤ hi)
        · have hq : y0 ≤ 2 ∨ (¬ y0 ≤ 2 ∧ lo ≤ y0 ∧ y0 ≤ hi) := by omega
          clear SK hp
          rcases hq with hq | ⟨hq, hq1, hq2⟩
          all_goals
            go_wp2_with fail
            refine PC.out.mono ?_
            rintro e w3 hp
            have HN := Lib.hid (HR.out.next hws hp)
            obtain rfl := hp.1
            clear hp c0 c1 c2 c3 c4 c5 PC HR
            go_wp2_with fail
            go_roundw
            case rel => exact ⟨k + 1, by omega, by go_num, rfl, HN⟩
            case measure => simp [intOf]; omega
        · have hq : (¬ y0 ≤ 2 ∧ ¬ lo ≤ y0) ∨ (¬ y0 ≤ 2 ∧ lo ≤ y0 ∧ ¬ y0 ≤ hi) := by omega
          clear PC hp HR
          rcases hq with ⟨hq, hq1⟩ | ⟨hq, hq1, hq2⟩
          all_goals
            go_wp2_with fail
            go_roundw
            case rel => exact ⟨k + 1, by omega, by go_num, rfl, SK⟩
            case measure => simp [intOf]; omega
      · have E := Lib.hid HR.out.1
        clear HR H3 H2
        go_wp2_with fail
        go_ret
        exact ⟨rfl, E.out⟩
theorem makes_c (A : Option Addr) (len cap : Nat) (F : Nat → Nat → Int) (w : World) (h : RS w 6 A len F) :
    Calls Try.prog 3 #[.slice A len cap] w fun e w' => e = .returned (.bool true) ∧ Below w.heap.size w w' := by
  have HC := Lib.hid (fun lo hi => holds_c A len cap F lo hi w h)
  clear h
  go_enter Try.func3, Try.ntmps3
  go_wp2_with fail
  refine (HC.out _ _).mono ?_
  rintro e w1 ⟨rfl, hb⟩
  have HB := Lib.hid hb
  clear hb
  go_wp2_with fail
  go_ret
  exact ⟨rfl, HB.out⟩
theorem words4_c (A : Option Addr) (len cap : Nat) (F : Nat → Nat → Int) (w : World) (h : RS w 6 A len F) :
    Calls Try.prog 4 #[.slice A len cap] w fun e w' => e = .returned (.bool true) ∧ Below w.heap.size w w' := by
  have HC := Lib.hid (fun lo hi => holds_c A len cap F lo hi w h)
  clear h
  go_enter Try.func4, Try.ntmps4
  go_wp2_with fail
  refine (HC.out _ _).mono ?_
  rintro e w1 ⟨rfl, hb⟩
  have HB := Lib.hid hb
  clear hb
  go_wp2_with fail
  go_ret
  exact ⟨rfl, HB.out⟩
end Go.Proofs.Ytoakmifihofpeaa
