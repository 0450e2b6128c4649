/- R16Rests' full, as a plain thing. -/
import Derived.Test.YtkjfbojmkkdgoaaL8
set_option linter.unusedVariables false
set_option linter.unusedSimpArgs false
namespace Go.Proofs.Ytkjfbojmkkdgoaa
open Go.RowKit
def fullL (x : Ins) : List Ins := [⟨1, 2, 0, 0, 524288⟩, ⟨1, 3, 0, 0, 1⟩, ⟨1, 4, 0, 0, 5⟩, ⟨37, 2, 0, 0, 0⟩, ⟨38, 3, 0, 0, 0⟩, ⟨4, 2, 2, 3, 0⟩, ⟨23, 2, 0, 0, 3⟩, x, ⟨27, 0, 0, 0, 0⟩]
def fullK (x : Ins) : MK := { ni := 9, X := insOf (fullL x), nf := 1, Fs := mainF 2 9, mn := 0, sl := 2, hl := 0 }
structure FI (q : MQ) (a : Int) (j : Int) (m : Nat) (s : Int) : Prop where
  fin : q.fin = 0
  at_ : q.at_ = a
  r2 : q.regs 2 = j
  r3 : q.regs 3 = 1
  r4 : q.regs 4 = 5
  ev : q.ev.length = m
  e0 : 0 < m → q.ev[0]? = some (1, 524288)
  steps : q.steps = s
  val : q.val = 0
  depth : q.depth = 1
  tk : q.hp.tk = 0
  inp : q.inp = []
  cl : q.cl = [0]
theorem full_start (x : Ins) : FI (runN (fullK x) 3 (newQ (fullK x) [])) 3 524288 0 3 := by
  have g0 : goes (fullK x) (newQ (fullK x) []) = true := rfl
  have g1 : goes (fullK x) (next (fullK x) (newQ (fullK x) [])) = true := rfl
  have g2 : goes (fullK x) (next (fullK x) (next (fullK x) (newQ (fullK x) []))) = true := rfl
  rw [runN_succ _ 2 _ g0, runN_succ _ 1 _ g1, runN_succ _ 0 _ g2]
  exact ⟨rfl, rfl, rfl, rfl, rfl, rfl, fun h => absurd h (by decide), rfl, rfl, rfl, rfl, rfl, rfl⟩
section
variable {x : Ins} {q : MQ} {j s : Int} {m : Nat}
theorem full_goes {a : Int} (h : FI q a j m s) (hm : m < 1048576) : goes (fullK x) q = true := by
  rw [goes_of h.fin]
  unfold rests
  rw [show decide (1048576 ≤ q.ev.length) = false from decide_eq_false (by rw [h.ev]; omega)]
  rfl
theorem full_out (h : FI q 3 j m s) (hj : m = 0 → j = 524288) : FI (next (fullK x) q) 4 j (m + 1) (s + 1) := by
  have e : next (fullK x) q = { q.tick with ev := q.ev ++ [(1, j)] } := by
    unfold next
    rw [show (fullK x).X q.at_.toNat = ⟨37, 2, 0, 0, 0⟩ by rw [h.at_]; rfl]
    have r2 : q.tick.regs 2 = j := h.r2
    simp [act, r2]
    rfl
  rw [e]
  refine ⟨h.fin, by show q.at_ + 1 = 4; rw [h.at_]; rfl, h.r2, h.r3, h.r4, by show (q.ev ++ [(1, j)]).length = _; rw [List.length_append, h.ev]; rfl, fun _ => ?_, by show q.steps + 1 = _; rw [h.steps], h.val, h.depth, h.tk, h.inp, h.cl⟩
  show (q.ev ++ [(1, j)])[0]? = _
  rcases Nat.eq_zero_or_pos m with h0 | h0
  · rw [List.eq_nil_of_length_eq_zero (h.ev.trans h0), hj h0]; rfl
  · rw [List.getElem?_append_left (by rw [h.ev]; exact h0)]; exact h.e0 h0
theorem full_outB (h : FI q 4 j m s) (h0 : 0 < m) : FI (next (fullK x) q) 5 j (m + 1) (s + 1) ∧ (next (fullK x) q).ev[m]? = some (2, 1) := by
  have e : next (fullK x) q = { q.tick with ev := q.ev ++ [(2, 1)] } := by
    unfold next
    rw [show (fullK x).X q.at_.toNat = ⟨38, 3, 0, 0, 0⟩ by rw [h.at_]; rfl]
    have r3 : q.tick.regs 3 = 1 := h.r3
    simp [act, r3]
    rfl
  rw [e]
  refine ⟨⟨h.fin, by show q.at_ + 1 = 5; rw [h.at_]; rfl, h.r2, h.r3, h.r4, by show (q.ev ++ [(2, 1)]).length = _; rw [List.length_append, h.ev]; rfl, fun _ => ?_, by show q.steps + 1 = _; rw [h.steps], h.val, h.depth, h.tk, h.inp, h.cl⟩, ?_⟩
  · show (q.ev ++ [(2, 1)])[0]? = _
    rw [List.getElem?_append_left (by rw [h.ev]; exact h0)]; exact h.e0 h0
  · show (q.ev ++ [(2, 1)])[m]? = _
    rw [List.getElem?_append_right (by rw [h.ev]; exact Nat.le_refl _), h.ev, Nat.sub_self]; rfl
theorem full_sub (h : FI q 5 j m s) (h1 : 1 ≤ j) (h2 : j ≤ 524288) : FI (next (fullK x) q) 6 (j - 1) m (s + 1) ∧ (next (fullK x) q).ev = q.ev := by
  have e : next (fullK x) q = q.tick.reg 2 (j - 1) := by
    unfold next
    rw [show (fullK x).X q.at_.toNat = ⟨4, 2, 2, 3, 0⟩ by rw [h.at_]; rfl]
    have r2 : q.tick.regs 2 = j := h.r2
    have r3 : q.tick.regs 3 = 1 := h.r3
    have hw : wdo 3 j 1 = j - 1 := by
      show wsub j 1 = j - 1
      unfold wsub
      unfold wrap64; omega
    simp [act, r2, r3, hw]
  rw [e]
  exact ⟨⟨h.fin, by show q.at_ + 1 = 6; rw [h.at_]; rfl, rfl, h.r3, h.r4, h.ev, h.e0, by show q.steps + 1 = _; rw [h.steps], h.val, h.depth, h.tk, h.inp, h.cl⟩, rfl⟩
theorem full_back (h : FI q 6 j m s) : FI (next (fullK x) q) (if j = 0 then 7 else 3) j m (s + 1) ∧ (next (fullK x) q).ev = q.ev := by
  have r2 : q.tick.regs 2 = j := h.r2
  have hX : (fullK x).X q.at_.toNat = ⟨23, 2, 0, 0, 3⟩ := by rw [h.at_]; rfl
  by_cases hj : j = 0
  · have e : next (fullK x) q = q.tick := by unfold next; rw [hX]; simp [act, r2, hj]
    rw [e, if_pos hj]
    exact ⟨⟨h.fin, by show q.at_ + 1 = 7; rw [h.at_]; rfl, h.r2, h.r3, h.r4, h.ev, h.e0, by show q.steps + 1 = _; rw [h.steps], h.val, h.depth, h.tk, h.inp, h.cl⟩, rfl⟩
  · have e : next (fullK x) q = { q.tick with at_ := 3 } := by unfold next; rw [hX]; simp [act, r2, hj]
    rw [e, if_neg hj]
    exact ⟨⟨h.fin, rfl, h.r2, h.r3, h.r4, h.ev, h.e0, by show q.steps + 1 = _; rw [h.steps], h.val, h.depth, h.tk, h.inp, h.cl⟩, rfl⟩
theorem full_round (h : FI q 3 j m s) (hj : m = 0 → j = 524288) (h1 : 1 ≤ j) (h2 : j ≤ 524288) (hm : m + 2 < 1048576 ∨ (m + 2 = 1048576)) :
    goes (fullK x) q = true ∧ goes (fullK x) (next (fullK x) q) = true ∧ FI (next (fullK x) (next (fullK x) q)) 5 j (m + 2) (s + 2) ∧ (next (fullK x) (next (fullK x) q)).ev[m + 1]? = some (2, 1) := by
  have a1 := full_out (x := x) h hj
  obtain ⟨a2, a3⟩ := full_outB (x := x) a1 (by omega)
  refine ⟨full_goes h (by omega), full_goes a1 (by omega), ?_, a3⟩
  have e : s + 2 = s + 1 + 1 := by omega
  rw [e]
  exact a2
end
theorem full_quiet {x : Ins} {q : MQ} {a j s : Int} {m : Nat} (h : FI q a j m s) (ho : ((fullK x).X a.toNat).op ≠ 37 ∧ ((fullK x).X a.toNat).op ≠ 38) : goes (fullK x) q = true := by
  rw [goes_of h.fin]
  unfold rests
  rw [h.at_]
  simp [ho.1, ho.2]
theorem full_rounds {x : Ins} : ∀ (n : Nat) {q : MQ} {m : Nat} {s : Int}, FI q 3 ((n : Int) + 1) m s → (m = 0 → n = 524287) → m + 2 * (n + 1) = 1048576 → n < 524288 →
    FI (runN (fullK x) (4 * (n + 1)) q) 7 0 1048576 (s + 4 * ((n : Int) + 1)) ∧ (runN (fullK x) (4 * (n + 1)) q).ev[1048575]? = some (2, 1)
  | n, q, m, s, h, hj, hm, hn => by
    obtain ⟨g1, g2, a2, l2⟩ := full_round (x := x) h (fun h0 => by have := hj h0; omega) (by omega) (by omega) (by omega)
    have g3 := full_quiet (x := x) a2 ⟨by show (4 : Int) ≠ 37; decide, by show (4 : Int) ≠ 38; decide⟩
    obtain ⟨a3, l3⟩ := full_sub (x := x) a2 (by omega) (by omega)
    have g4 := full_quiet (x := x) a3 ⟨by show (23 : Int) ≠ 37; decide, by show (23 : Int) ≠ 38; decide⟩
    obtain ⟨a4, l4⟩ := full_back (x := x) a3
    have el : (next (fullK x) (next (fullK x) (next (fullK x) (next (fullK x) q)))).ev[m + 1]? = some (2, 1) := by rw [l4, l3]; exact l2
    cases n with
    | zero =>
      have em : m = 1048574 := by omega
      subst em
      rw [show 4 * (0 + 1) = 3 + 1 from rfl, runN_succ _ 3 _ g1, runN_succ _ 2 _ g2, runN_succ _ 1 _ g3, runN_succ _ 0 _ g4]
      refine ⟨?_, el⟩
      have e1 : ((0 : Nat) : Int) + 1 - 1 = 0 := rfl
      rw [e1, if_pos rfl] at a4
      have e2 : s + 4 * (((0 : Nat) : Int) + 1) = s + 2 + 1 + 1 := by omega
      rw [e2]
      exact a4
    | succ n =>
      have e1 : ((n + 1 : Nat) : Int) + 1 - 1 = (n : Int) + 1 := by omega
      rw [e1, if_neg (by omega)] at a4
      have ih := full_rounds (x := x) n a4 (fun h0 => by omega) (by omega) (by omega)
      rw [show 4 * (n + 1 + 1) = 4 * (n + 1) + 3 + 1 by omega, runN_succ _ _ _ g1, runN_succ _ _ _ g2, runN_succ _ _ _ g3, runN_succ _ _ _ g4]
      have e2 : s + 4 * (((n + 1 : Nat) : Int) + 1) = s + 2 + 1 + 1 + 4 * ((n : Int) + 1) := by omega
      rw [e2]
      exact ih
/-- Ahead of the last but one instruction. -/
theorem full_ahead (x : Ins) : FI (runN (fullK x) 2097155 (newQ (fullK x) [])) 7 0 1048576 2097155 ∧ (runN (fullK x) 2097155 (newQ (fullK x) [])).ev[1048575]? = some (2, 1) := by
  have h := full_rounds (x := x) 524287 (full_start x) (fun _ => rfl) (by decide) (by decide)
  have e : runN (fullK x) 2097155 (newQ (fullK x) []) = runN (fullK x) (4 * (524287 + 1)) (runN (fullK x) 3 (newQ (fullK x) [])) := by rw [← runN_add]
  rw [e]
  exact h
end Go.Proofs.Ytkjfbojmkkdgoaa
