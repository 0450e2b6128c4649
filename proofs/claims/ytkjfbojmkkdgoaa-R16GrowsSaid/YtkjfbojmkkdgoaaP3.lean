/- r16's machine as a plain thing: what was told stays told; more stack and heap. -/
import Derived.Test.YtkjfbojmkkdgoaaP2
set_option linter.unusedVariables false
set_option linter.unusedSimpArgs false
namespace Go.Proofs.Ytkjfbojmkkdgoaa
open Go.RowKit
theorem act_ev (K : MK) (q : MQ) (i : Ins) : ∃ l, (act K q i).ev = q.ev ++ l := by
  unfold act
  simp only []
  repeat' refine ite_ind (P := fun x => ∃ l, x.ev = q.ev ++ l) ?_ ?_
  all_goals first | exact ⟨[], (List.append_nil _).symm⟩ | exact ⟨_, rfl⟩ | (cases q.inp <;> exact ⟨[], (List.append_nil _).symm⟩)
theorem next_ev (K : MK) (q : MQ) : ∃ l, (next K q).ev = q.ev ++ l := act_ev K q.tick _
theorem runN_ev (K : MK) : ∀ (n : Nat) (q : MQ), ∃ l, (runN K n q).ev = q.ev ++ l
  | 0, q => ⟨[], (List.append_nil _).symm⟩
  | n + 1, q => by
    unfold runN
    split
    · obtain ⟨l, h⟩ := next_ev K q
      obtain ⟨l2, h2⟩ := runN_ev K n (next K q)
      exact ⟨l ++ l2, by rw [h2, h, List.append_assoc]⟩
    · exact ⟨[], (List.append_nil _).symm⟩
theorem madeN_goes {K : MK} : ∀ {n : Nat} {q : MQ}, madeN K n q < n → goes K (runN K n q) = false
  | 0, q, h => absurd h (Nat.not_lt_zero _)
  | n + 1, q, h => by
    unfold madeN at h
    unfold runN
    split
    · rename_i hg
      rw [if_pos hg] at h
      exact madeN_goes (by omega)
    · rename_i hg
      exact Bool.eq_false_iff.2 hg
/-- The same code, and no less stack or heap. -/
structure More (K K' : MK) : Prop where
  x : K'.X = K.X
  f : K'.Fs = K.Fs
  s : K.sl ≤ K'.sl
  h : K.hl ≤ K'.hl
def Want (q x : MQ) : Prop := x.fin = 2 ∧ (x.kind = 7 ∨ x.kind = 8) ∧ x.ev = q.ev ∧ x.steps = q.steps
theorem ite_two {P : MQ → MQ → Prop} {c : Prop} [Decidable c] {a b a' b' : MQ} (h1 : P a a') (h2 : P b b') : P (if c then a else b) (if c then a' else b') := by split <;> assumption
theorem begin_more {K K' : MK} (m : More K K') (q : MQ) (f : Nat) (fr b c : Int) : q.begin K' f fr b c = q.begin K f fr b c := by unfold MQ.begin; rw [m.f]
theorem act_more {K K' : MK} (m : More K K') (q : MQ) (i : Ins) : act K' q i = act K q i ∨ Want q (act K q i) := by
  have ms := m.s
  have mh := m.h
  unfold act
  simp only [begin_more m, show q.ret K' = q.ret K from by unfold MQ.ret; rw [m.f], m.f]
  repeat' refine ite_two (P := fun x' x => x' = x ∨ Want q x) ?_ ?_
  all_goals first
    | exact .inl rfl
    | skip
  · by_cases h : K.sl - (q.fr + q.sz) < (K.Fs i.n.toNat).frame
    · rw [if_pos h]; exact .inr ⟨rfl, .inl rfl, rfl, rfl⟩
    · rw [if_neg h, if_neg (by omega)]; exact .inl rfl
  · by_cases h : K.hl - q.hp.tk ≤ q.regs i.b
    · rw [if_pos h]; exact .inr ⟨rfl, .inr rfl, rfl, rfl⟩
    · rw [if_neg h, if_neg (by omega)]; exact .inl rfl
theorem goes_more {K K' : MK} (m : More K K') (q : MQ) : goes K' q = goes K q := by unfold goes rests; rw [m.x]
theorem next_more {K K' : MK} (m : More K K') (q : MQ) : next K' q = next K q ∨ Want q.tick (next K q) := by
  unfold next
  rw [m.x]
  exact act_more m _ _
theorem run_more {K K' : MK} (m : More K K') : ∀ (n : Nat) (q : MQ), runN K' n q = runN K n q ∨ ((runN K n q).fin = 2 ∧ ((runN K n q).kind = 7 ∨ (runN K n q).kind = 8) ∧ (runN K n q).ev.length ≤ (runN K' n q).ev.length ∧ (runN K n q).steps ≤ (runN K' n q).steps)
  | 0, q => .inl rfl
  | n + 1, q => by
    cases hg : goes K q with
    | false => rw [runN_rest _ _ hg, runN_rest _ _ ((goes_more m q).trans hg)]; exact .inl rfl
    | true =>
      rw [runN_succ _ _ _ hg, runN_succ _ _ _ ((goes_more m q).trans hg)]
      rcases next_more m q with h | ⟨h1, h2, h3, h4⟩
      · rw [h]; exact run_more m n _
      · have g2 : goes K (next K q) = false := by
          unfold goes
          rw [h1]
          rfl
        rw [runN_rest _ _ g2]
        refine .inr ⟨h1, h2, ?_, ?_⟩
        · obtain ⟨l, hl⟩ := runN_ev K' n (next K' q)
          obtain ⟨l2, hl2⟩ := next_ev K' q
          rw [h3, hl, hl2, List.length_append, List.length_append]
          show q.ev.length ≤ _
          omega
        · rw [h4, runN_steps, next_steps]
          show q.steps + 1 ≤ _
          omega
end Go.Proofs.Ytkjfbojmkkdgoaa
