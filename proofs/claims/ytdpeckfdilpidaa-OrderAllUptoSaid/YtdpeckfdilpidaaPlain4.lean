/- A chain's end. No program here. -/
import Derived.Test.YtdpeckfdilpidaaPlain2
set_option linter.unusedVariables false
set_option linter.unusedSimpArgs false
namespace Go.Proofs.Ytdpeckfdilpidaa
def CX (n : Nat) (k : Nat) : List Int := if k + 1 < n then [((k + 1 : Nat) : Int)] else []
theorem Steps.trans {X : Nat → List Int} {s t u : DS} (h : Steps X s t) (k : Steps X t u) : Steps X s u := by
  induction h with
  | refl s => exact k
  | head h1 _ ih => exact .head h1 (ih k)
def spent (j : Nat) : List (Nat × Nat) := (List.range j).map fun k => (k, 0)
theorem spent_succ (j : Nat) : spent (j + 1) = spent j ++ [(j, 0)] := by simp [spent, List.range_succ]
theorem chain_down (n : Nat) : ∀ j, j < n → ∃ f : Nat → Bool, (∀ k, f k = decide (k ≤ j)) ∧ Steps (CX n) (DS.start (CX n)) ⟨f, spent j ++ [(j, (CX n j).length)], []⟩
  | 0, _ => ⟨fun k => decide (k ≤ 0), fun k => rfl, by
      have : DS.start (CX n) = ⟨fun k => decide (k ≤ 0), spent 0 ++ [(0, (CX n 0).length)], []⟩ := by
        rw [DS.start, DS.visit_yes rfl]
        congr 1
        funext k
        simp
      rw [this]; exact .refl _⟩
  | j + 1, hj => by
    obtain ⟨f, hf, hs⟩ := chain_down n j (by omega)
    have hl : CX n j = [((j + 1 : Nat) : Int)] := by rw [CX, if_pos hj]
    have h1 : (CX n j).length = 0 + 1 := by rw [hl]; rfl
    rw [h1] at hs
    have hst := hs.snoc (Step.way f (spent j) j 0 [])
    have hg : ((CX n j).getD 0 0).toNat = j + 1 := by rw [hl]; simp
    rw [hg, DS.visit_yes (by show f (j + 1) = false; rw [hf]; simp)] at hst
    refine ⟨_, fun k => ?_, by rw [spent_succ]; exact hst⟩
    by_cases hk : k = j + 1
    · simp [hk]
    · rw [if_neg hk]
      show f k = _
      rw [hf]
      exact decide_eq_decide.2 (by omega)
theorem chain_up (X : Nat → List Int) (f : Nat → Bool) : ∀ (j : Nat) (d : List Nat), Steps X ⟨f, spent j, d⟩ ⟨f, [], d ++ (List.range j).reverse⟩
  | 0, d => by simpa [spent] using Steps.refl _
  | j + 1, d => by
    rw [spent_succ]
    refine .head (.pop f (spent j) j d) ?_
    have := chain_up X f j (d ++ [j])
    rw [List.range_succ, List.reverse_append]
    simpa using this
theorem chain_end (n : Nat) (hn : 0 < n) : ∃ t, Steps (CX n) (DS.start (CX n)) t ∧ t.op = [] ∧ t.done = (List.range n).reverse := by
  obtain ⟨f, _, hs⟩ := chain_down n (n - 1) (by omega)
  have hl : (CX n (n - 1)).length = 0 := by rw [CX, if_neg (by omega)]; rfl
  rw [hl, ← spent_succ, show n - 1 + 1 = n by omega] at hs
  exact ⟨_, hs.trans (chain_up (CX n) f n []), rfl, by simp⟩
end Go.Proofs.Ytdpeckfdilpidaa
