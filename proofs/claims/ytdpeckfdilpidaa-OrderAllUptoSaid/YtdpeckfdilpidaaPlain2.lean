/- The walk over blocks goes one way: its end is one. No program here. -/
import Derived.Test.YtdpeckfdilpidaaPlain
set_option linter.unusedVariables false
set_option linter.unusedSimpArgs false
namespace Go.Proofs.Ytdpeckfdilpidaa
theorem snoc_inj {α : Type} {a b : List α} {x y : α} (h : a ++ [x] = b ++ [y]) : a = b ∧ x = y := by
  have := List.append_inj' h rfl
  exact ⟨this.1, by simpa using this.2⟩
theorem Step.det {X : Nat → List Int} {s t t' : DS} (h : Step X s t) (h' : Step X s t') : t = t' := by
  cases h with
  | pop seen op b done =>
    generalize hs : (⟨seen, op ++ [(b, 0)], done⟩ : DS) = s at h'
    cases h' with
    | pop seen' op' b' done' =>
      injection hs with h1 h2 h3
      obtain ⟨rfl, h4⟩ := snoc_inj h2
      injection h4 with h4 _
      subst h1 h3 h4
      rfl
    | way seen' op' b' l' done' =>
      injection hs with h1 h2 h3
      obtain ⟨_, h4⟩ := snoc_inj h2
      injection h4 with _ h5
      omega
  | way seen op b l done =>
    generalize hs : (⟨seen, op ++ [(b, l + 1)], done⟩ : DS) = s at h'
    cases h' with
    | pop seen' op' b' done' =>
      injection hs with h1 h2 h3
      obtain ⟨_, h4⟩ := snoc_inj h2
      injection h4 with _ h5
      omega
    | way seen' op' b' l' done' =>
      injection hs with h1 h2 h3
      obtain ⟨rfl, h4⟩ := snoc_inj h2
      injection h4 with h4 h5
      have h5' : l = l' := by omega
      subst h1 h3 h4 h5'
      rfl
theorem Step.open_ {X : Nat → List Int} {s t : DS} (h : Step X s t) : s.op ≠ [] := by
  cases h <;> simp
/-- Steps, one behind the other. -/
inductive Steps (X : Nat → List Int) : DS → DS → Prop
  | refl (s : DS) : Steps X s s
  | head {s t u : DS} : Step X s t → Steps X t u → Steps X s u
theorem Steps.snoc {X : Nat → List Int} {s t u : DS} (h : Steps X s t) (k : Step X t u) : Steps X s u := by
  induction h with
  | refl s => exact .head k (.refl _)
  | head h1 _ ih => exact .head h1 (ih k)
theorem Reach.steps {X : Nat → List Int} {s : DS} (h : Reach X s) : Steps X (DS.start X) s := by
  induction h with
  | start => exact .refl _
  | step _ k ih => exact ih.snoc k
/-- Two ways to an end are one. -/
theorem Steps.end_ {X : Nat → List Int} {s t u : DS} (h : Steps X s t) (k : Steps X s u) (ht : t.op = []) (hu : u.op = []) : t = u := by
  induction h with
  | refl s =>
    cases k with
    | refl => rfl
    | head k1 _ => exact absurd ht k1.open_
  | head h1 _ ih =>
    cases k with
    | refl => exact absurd hu h1.open_
    | head k1 k2 =>
      have := h1.det k1
      subst this
      exact ih k2 ht
end Go.Proofs.Ytdpeckfdilpidaa
