/- R16Rests, as a plain thing: two tellers and a jump, round after round. -/
import Derived.Test.YtkjfbojmkkdgoaaL4
set_option linter.unusedVariables false
set_option linter.unusedSimpArgs false
namespace Go.Proofs.Ytkjfbojmkkdgoaa
open Go.RowKit
def restL (op : Int) : List Ins := [⟨op, 1, 0, 0, 0⟩, ⟨op, 1, 0, 0, 0⟩, ⟨21, 0, 0, 0, 0⟩]
def restK (op : Int) : MK := { ni := 3, X := insOf (restL op), nf := 1, Fs := mainF 2 3, mn := 0, sl := 2, hl := 0 }
/-- Where a run stands: nothing but this matters. -/
structure RI (q : MQ) (a : Int) (m : Nat) (s : Int) : Prop where
  fin : q.fin = 0
  at_ : q.at_ = a
  r1 : q.regs 1 = 0
  ev : q.ev.length = m
  steps : q.steps = s
theorem rest_start (op : Int) : RI (newQ (restK op) []) 0 0 0 := ⟨rfl, rfl, rfl, rfl, rfl⟩
theorem rest_tell {op : Int} (ho : op = 37 ∨ op = 38) {q : MQ} {a m : Nat} {s : Int} (ha : a = 0 ∨ a = 1) (h : RI q (a : Int) m s) (hm : m < 1048576) : goes (restK op) q = true ∧ RI (next (restK op) q) ((a : Int) + 1) (m + 1) (s + 1) := by
  have hX : (restK op).X q.at_.toNat = ⟨op, 1, 0, 0, 0⟩ := by
    rw [h.at_]
    rcases ha with rfl | rfl <;> rfl
  constructor
  · rw [goes_of h.fin]
    unfold rests
    rw [hX, show decide (1048576 ≤ q.ev.length) = false from decide_eq_false (by rw [h.ev]; omega)]
    rfl
  · unfold next
    rw [hX]
    have r1 : q.tick.regs 1 = 0 := h.r1
    have e : ∃ k, act (restK op) q.tick ⟨op, 1, 0, 0, 0⟩ = { q.tick with ev := q.tick.ev ++ [(k, 0)] } := by
      rcases ho with rfl | rfl
      · exact ⟨1, by simp [act, r1]⟩
      · exact ⟨2, by simp [act, r1]⟩
    obtain ⟨k, e⟩ := e
    rw [e]
    refine ⟨h.fin, ?_, h.r1, ?_, ?_⟩
    · show q.at_ + 1 = _
      rw [h.at_]
    · show (q.ev ++ [(k, 0)]).length = _
      rw [List.length_append, h.ev]; rfl
    · show q.steps + 1 = _
      rw [h.steps]
theorem rest_jump {op : Int} {q : MQ} {m : Nat} {s : Int} (h : RI q 2 m s) : goes (restK op) q = true ∧ RI (next (restK op) q) 0 m (s + 1) := by
  have hX : (restK op).X q.at_.toNat = ⟨21, 0, 0, 0, 0⟩ := by rw [h.at_]; rfl
  constructor
  · rw [goes_of h.fin]
    unfold rests
    rw [hX]
    simp
  · unfold next
    rw [hX]
    refine ⟨h.fin, rfl, h.r1, h.ev, ?_⟩
    show q.steps + 1 = _
    rw [h.steps]
theorem rest_full {op : Int} (ho : op = 37 ∨ op = 38) {q : MQ} {s : Int} (h : RI q 0 1048576 s) : goes (restK op) q = false := by
  have hX : (restK op).X q.at_.toNat = ⟨op, 1, 0, 0, 0⟩ := by rw [h.at_]; rfl
  rw [goes_of h.fin]
  unfold rests
  rw [hX, show decide (1048576 ≤ q.ev.length) = true from decide_eq_true (by rw [h.ev]; omega)]
  have r1 := h.r1
  rcases ho with rfl | rfl
  · rfl
  · simp [r1]
theorem rest_round {op : Int} (ho : op = 37 ∨ op = 38) {q : MQ} {m : Nat} {s : Int} (h : RI q 0 m s) (hm : m + 2 ≤ 1048576) : RI (runN (restK op) 3 q) 0 (m + 2) (s + 3) := by
  obtain ⟨g1, h1⟩ := rest_tell ho (a := 0) (.inl rfl) h (by omega)
  obtain ⟨g2, h2⟩ := rest_tell ho (a := 1) (.inr rfl) h1 (by omega)
  obtain ⟨g3, h3⟩ := rest_jump (op := op) h2
  rw [runN_succ _ 2 _ g1, runN_succ _ 1 _ g2, runN_succ _ 0 _ g3]
  have : s + 3 = s + 1 + 1 + 1 := by omega
  rw [this]
  exact h3
theorem rest_rounds {op : Int} (ho : op = 37 ∨ op = 38) : ∀ (n : Nat) {q : MQ} {m : Nat} {s : Int}, RI q 0 m s → m + 2 * n ≤ 1048576 → RI (runN (restK op) (3 * n) q) 0 (m + 2 * n) (s + 3 * (n : Int))
  | 0, q, m, s, h, _ => by simpa [runN] using h
  | n + 1, q, m, s, h, hm => by
    have h1 := rest_round ho h (by omega)
    have h2 := rest_rounds ho n h1 (by omega)
    rw [show 3 * (n + 1) = 3 + 3 * n by omega, runN_add]
    have e1 : m + 2 * (n + 1) = m + 2 + 2 * n := by omega
    have e2 : s + 3 * ((n + 1 : Nat) : Int) = s + 3 + 3 * (n : Int) := by omega
    rw [e1, e2]
    exact h2
/-- A run of one step less than the last round's end. -/
theorem rest_a {op : Int} (ho : op = 37 ∨ op = 38) : RI (runN (restK op) 1572863 (newQ (restK op) [])) 2 1048576 1572863 := by
  have h1 := rest_rounds ho 524287 (rest_start op) (by omega)
  obtain ⟨g2, h2⟩ := rest_tell ho (a := 0) (.inl rfl) h1 (by omega)
  obtain ⟨g3, h3⟩ := rest_tell ho (a := 1) (.inr rfl) h2 (by omega)
  have e : runN (restK op) 1572863 (newQ (restK op) []) = runN (restK op) 2 (runN (restK op) (3 * 524287) (newQ (restK op) [])) := by rw [← runN_add]
  rw [e, runN_succ _ 1 _ g2, runN_succ _ 0 _ g3]
  exact h3
theorem rest_b {op : Int} (ho : op = 37 ∨ op = 38) {q : MQ} (h : RI q 2 1048576 1572863) (n : Nat) : RI (runN (restK op) (n + 1) q) 0 1048576 1572864 ∧ madeN (restK op) (n + 1) q = 1 := by
  obtain ⟨g1, h1⟩ := rest_jump (op := op) h
  have g2 := rest_full ho h1
  rw [runN_succ _ n _ g1, runN_rest _ _ g2, madeN_succ _ g1, madeN_no g2]
  exact ⟨h1, rfl⟩
end Go.Proofs.Ytkjfbojmkkdgoaa
