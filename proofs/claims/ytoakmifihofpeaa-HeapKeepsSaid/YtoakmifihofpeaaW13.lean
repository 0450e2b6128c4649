/- HeapAll: two pairs in turns. -/
import Derived.Test.YtoakmifihofpeaaW12
set_option linter.unusedVariables false
set_option linter.unusedSimpArgs false
namespace Go.Proofs.Ytoakmifihofpeaa
open Go.RowKit
attribute [local go_sem ↓] Go.wp_at_zero Go.wp_at_succ
def Two (B p q k : Nat) (w wr : World) : Prop := Below B w wr ∧ ∃ P Q : Nat → Prop, PairAt wr P p k ∧ PairAt wr Q q k ∧ (∀ b, P b → B ≤ b ∧ b < wr.heap.size) ∧ (∀ b, Q b → B ≤ b ∧ b < wr.heap.size) ∧ ∀ b, P b → ¬ Q b
theorem Two.swap {B p q k : Nat} {w wr : World} (h : Two B p q k w wr) : Two B q p k w wr := by
  obtain ⟨h1, P, Q, h2, h3, h4, h5, h6⟩ := h
  exact ⟨h1, Q, P, h3, h2, h5, h4, fun b hq hp => h6 b hp hq⟩
theorem PairAt.up {w : World} {F : Nat → Prop} {p c : Nat} (h : PairAt w F p c) (hc : c + 1 < 900000) : PairAt w F p (c + 1) := by
  obtain ⟨q, r, l, F1, F2, F3, g, gr, v, h⟩ := h
  exact ⟨q, r, l, F1, F2, F3, g, gr, v, h.up hc⟩
def TwoPost (B p q k : Nat) (w : World) (e : Ending) (W : World) : Prop := e = .returned (.bool true) ∧ Two B p q (k + 1) w W
theorem Two.play {B p q k : Nat} {w wr : World} (h : Two B p q k w wr) (hB : B ≤ wr.heap.size) (hk : k + 1 < 900000) (y0 y1 y2 y3 y4 y5 : Int) (h3 : i64in y3) (h2 : i64in y2) (h5 : i64in y5) :
    Calls Try.prog 12 #[.pointer (some ⟨p, 0, none⟩), .agg #[.int .i64 y0, .int .i64 y1, .int .i64 y2, .int .i64 y3, .int .i64 y4, .int .i64 y5]] wr (TwoPost B p q k w) := by
  obtain ⟨g1, P, Q, g2, g3, g4, g5, g6⟩ := h
  refine (plays_c wr P p k g2 (fun b hb => (g4 b hb).2) hk y0 y1 y2 y3 y4 y5 h3 h2 h5).mono ?_
  rintro e W hp
  have hs := hp.2.2.size
  refine ⟨hp.1, g1.trans (hp.2.2.toBelow hB fun x hx hf => by have := (g4 x hf).1; omega), fun b => (P b ∨ wr.heap.size ≤ b) ∧ b < W.heap.size, Q, hp.2.1.more (fun b hb hf => ⟨hf, hb⟩), (g3.only hp.2.2 fun b _ hq hp' => g6 b hp' hq).up hk, ?_, fun b hb => ⟨(g5 b hb).1, by have := (g5 b hb).2; omega⟩, ?_⟩
  · rintro b ⟨hf | hf, hb⟩
    · exact ⟨(g4 b hf).1, hb⟩
    · exact ⟨by omega, hb⟩
  · rintro b ⟨hf | hf, hb⟩ hq
    · exact g6 b hf hq
    · have := (g5 b hq).2; omega
set_option maxRecDepth 100000 in
set_option maxHeartbeats 4000000 in
theorem all_c (A : Option Addr) (len cap : Nat) (F : Nat → Nat → Int) (w : World) (h : RS w 6 A len F) :
    Calls Try.prog 5 #[.slice A len cap] w fun e w' => e = .returned (.bool true) ∧ Below w.heap.size w w' := by
  obtain ⟨h1, h2, h3⟩ := h
  have H3 := Lib.hid h3
  have H2 := Lib.hid h2
  have FC := Lib.hid (fits_c A len cap w)
  clear h2 h3
  by_cases hlen : 5000 < len
  · have hd : decide ((len : Int) ≤ 5000) = false := decide_eq_false (by omega)
    go_enter Try.func5, Try.ntmps5
    go_wp2_with (go_at_call 9; refine FC.out.mono ?_; rintro e w1 ⟨rfl, rfl⟩)
    go_ret
    exact ⟨rfl, Below.refl _ _⟩
  · have hd : decide ((len : Int) ≤ 5000) = true := decide_eq_true (by omega)
    go_enter Try.func5, Try.ntmps5
    go_wp2_with (go_at_call 9; refine FC.out.mono ?_; rintro e w1 ⟨rfl, rfl⟩)
    refine (alive_c _).mono ?_
    rintro e w1 ⟨rfl, hb1⟩
    have HB1 := Lib.hid hb1
    clear hb1
    go_wp2_with fail
    refine (made_c w1).mono ?_
    rintro e w2 ⟨p, rfl, hp, hb⟩
    have HP := Lib.hid hp
    have HB2 := Lib.hid hb
    clear hp hb
    go_wp2_with fail
    refine (made_c w2).mono ?_
    rintro e w3 ⟨q, rfl, hp, hb⟩
    have hs1 : w.heap.size ≤ w1.heap.size := HB1.out.size
    have hs2 : w1.heap.size ≤ w2.heap.size := HB2.out.size
    have hs3 : w2.heap.size ≤ w3.heap.size := hb.size
    have E : Hid (Two w.heap.size p q 0 w w3) := ⟨(HB1.out.trans (HB2.out.mono hs1)).trans (hb.mono (by omega)), fun b => w1.heap.size ≤ b ∧ b < w2.heap.size, fun b => w2.heap.size ≤ b ∧ b < w3.heap.size,
      HP.out.only (Only.ofBelow (F := fun _ => False) hb) fun _ _ _ h => h, hp, fun b hb => by omega, fun b hb => by omega, fun b hb hb' => by omega⟩
    clear hp hb HB1 HB2 HP
    go_wp2_with fail
    go_loopw [5, 8] (fun x i wr => ∃ k : Nat, k ≤ len ∧ i = .int .i64 (k : Int) ∧ x = .bool true ∧ Hid (Two w.heap.size p q k w wr)) (fun _ i _ => len - (intOf i).toNat)
    case atStart => exact ⟨0, by omega, rfl, rfl, E⟩
    case round =>
      obtain ⟨k, hk, rfl, rfl, HR⟩ := hrel
      by_cases hlt : k < len
      · obtain ⟨b, off, rfl, hbl⟩ := H2.out (by omega)
        have c0 : wr.cell? ⟨b, off + k * 6, none⟩ = _ := (HR.out.1.cell hbl).trans ((H3.out k hlt 0 (by omega)).2 b off rfl)
        have c1 := (HR.out.1.cell hbl).trans ((H3.out k hlt 1 (by omega)).2 b off rfl)
        have c2 := (HR.out.1.cell hbl).trans ((H3.out k hlt 2 (by omega)).2 b off rfl)
        have c3 := (HR.out.1.cell hbl).trans ((H3.out k hlt 3 (by omega)).2 b off rfl)
        have c4 := (HR.out.1.cell hbl).trans ((H3.out k hlt 4 (by omega)).2 b off rfl)
        have c5 := (HR.out.1.cell hbl).trans ((H3.out k hlt 5 (by omega)).2 b off rfl)
        have N := Lib.hid (fun j (hj : j < 6) => wfb (H3.out k hlt j hj).1)
        have hws : w.heap.size ≤ wr.heap.size := HR.out.1.size
        have PC := Lib.hid (HR.out.play hws (by omega) (F k 0) (F k 1) (F k 2) (F k 3) (F k 4) (F k 5) (N.out 3 (by omega)) (N.out 2 (by omega)) (N.out 5 (by omega)))
        have QC := Lib.hid (HR.out.swap.play hws (by omega) (F k 0) (F k 1) (F k 2) (F k 3) (F k 4) (F k 5) (N.out 3 (by omega)) (N.out 2 (by omega)) (N.out 5 (by omega)))
        clear N E HR
        generalize F k 0 = y0 at *
        generalize F k 1 = y1 at *
        generalize F k 2 = y2 at *
        generalize F k 3 = y3 at *
        generalize F k 4 = y4 at *
        generalize F k 5 = y5 at *
        clear H3 H2
        by_cases hp : y1.tmod 2 = 0
        · have hp' : (y1.tmod 2 == 0) = true := beq_iff_eq.2 hp
          clear QC hp
          go_wp2_with fail
          refine PC.out.mono ?_
          rintro e w4 ⟨rfl, hp⟩
          have HN := Lib.hid hp
          clear hp c0 c1 c2 c3 c4 c5 PC
          go_wp2_with fail
          go_roundw
          case rel => exact ⟨k + 1, by omega, by go_num, rfl, HN⟩
          case measure => simp [intOf]; omega
        · have hp' : (y1.tmod 2 == 0) = false := beq_eq_false_iff_ne.2 hp
          clear PC hp
          go_wp2_with fail
          refine QC.out.mono ?_
          rintro e w4 ⟨rfl, hp⟩
          have HN := Lib.hid hp.swap
          clear hp c0 c1 c2 c3 c4 c5 QC
          go_wp2_with fail
          go_roundw
          case rel => exact ⟨k + 1, by omega, by go_num, rfl, HN⟩
          case measure => simp [intOf]; omega
      · have E := Lib.hid HR.out.1
        clear HR H3 H2
        go_wp2_with fail
        go_ret
        exact ⟨rfl, E.out⟩
end Go.Proofs.Ytoakmifihofpeaa
