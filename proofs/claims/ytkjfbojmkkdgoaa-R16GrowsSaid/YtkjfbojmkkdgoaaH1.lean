/- What a heap holds and what its calls answer, on whole numbers; no program here. -/
import Derived.Test.YtkjfbojmkkdgoaaMem
set_option linter.unusedVariables false
set_option linter.unusedSimpArgs false
namespace Go.Proofs.Ytkjfbojmkkdgoaa
open Go.RowKit
structure QH where
  sz : Int → Option Int
  wd : Int → Option Int
  tk : Int
def QH.empty : QH := ⟨fun _ => none, fun _ => none, 0⟩
def fitsB (tk n : Int) : Bool := decide (0 ≤ n ∧ n < 4611686018427387904 - tk)
def QH.make (q : QH) (n : Int) : QH := if fitsB q.tk n = true then ⟨upd q.sz (q.tk + 1) n, q.wd, q.tk + n + 1⟩ else q
def makeA (tk n : Int) : Int := if fitsB tk n = true then tk + 1 else 0
def QH.lenA (q : QH) (a : Int) : Int := if a = 0 then 0 else (q.sz a).getD 0
def QH.lenB (q : QH) (a : Int) : Bool := if a = 0 then true else (q.sz a).isSome
def QH.has (q : QH) (a i : Int) : Bool := match q.sz a with | some n => decide (0 ≤ i ∧ i < n) | none => false
def QH.getA (q : QH) (a i : Int) : Int := if q.has a i = true then (q.wd (a + 1 + i)).getD 0 else 0
def QH.set (q : QH) (a i v : Int) : QH := if q.has a i = true then ⟨q.sz, upd q.wd (a + 1 + i) v, q.tk⟩ else q
/-- What is always so of a heap: blocks lie within what was taken. -/
def QH.Ok (q : QH) : Prop := 0 ≤ q.tk ∧ q.tk ≤ 4611686018427387904 ∧ ∀ a n, q.sz a = some n → 1 ≤ a ∧ 0 ≤ n ∧ a + n ≤ q.tk
theorem QH.Ok.empty : QH.empty.Ok := ⟨by decide, by decide, fun a n h => by cases h⟩
theorem fitsB_iff (tk n : Int) : fitsB tk n = true ↔ 0 ≤ n ∧ n < 4611686018427387904 - tk := by simp [fitsB]
theorem QH.Ok.make {q : QH} (h : q.Ok) (n : Int) : (q.make n).Ok := by
  unfold QH.make
  by_cases hf : fitsB q.tk n = true
  · rw [if_pos hf]
    rw [fitsB_iff] at hf
    obtain ⟨h1, h2, h3⟩ := h
    refine ⟨by show 0 ≤ q.tk + n + 1; omega, by show q.tk + n + 1 ≤ _; omega, fun a m hm => ?_⟩
    show 1 ≤ a ∧ 0 ≤ m ∧ a + m ≤ q.tk + n + 1
    simp only [upd] at hm
    split at hm
    · injection hm with hm; omega
    · have := h3 a m hm; omega
  · rw [if_neg hf]; exact h
theorem QH.Ok.set {q : QH} (h : q.Ok) (a i v : Int) : (q.set a i v).Ok := by
  unfold QH.set
  split
  · exact h
  · exact h
theorem QH.Ok.at_ {q : QH} (h : q.Ok) {a i : Int} (hh : q.has a i = true) : 1 ≤ a ∧ 0 ≤ i ∧ a + i + 1 ≤ 4611686018427387904 := by
  obtain ⟨h1, h2, h3⟩ := h
  unfold QH.has at hh
  split at hh
  · rename_i n hn
    have := h3 a n hn
    simp at hh
    omega
  · cases hh
end Go.Proofs.Ytkjfbojmkkdgoaa
