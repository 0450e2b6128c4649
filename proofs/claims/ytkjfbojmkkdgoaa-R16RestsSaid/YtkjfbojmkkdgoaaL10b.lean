/- A store of a whole row into a block of its own: the world behind it is any with that row. -/
import Derived.Test.YtkjfbojmkkdgoaaL10
set_option linter.unusedVariables false
set_option linter.unusedSimpArgs false
namespace Go.Proofs.Ytkjfbojmkkdgoaa
open Go.RowKit
theorem step_lay {T : TypeId} {ops : Array Oper} {rest : List Oper} {o : Oper} {a : Act} {Q : Exit → Act → World → Prop} {w : World} {x y : Operand} {b : Nat} {cur cs : Array Value} (hg : o.guard = none) (h : o.op = .store T x y) (hT : ∀ w, (sizeOf T).run Try.prog w = .ok cs.size w) (hx : a.eval x = .pointer (some ⟨b, 0, none⟩)) (hy : a.eval y = .agg cs) (hB : Blk w b T cur) (hc : cs.size = cur.size) (h1 : ∀ v ∈ cs.toList, v.oneCell' = true)
    (hK : ∀ w', Blk w' b T cs → w'.heap.size = w.heap.size → Only (fun c => c = b) w w' → wpList Try.prog ops Q rest (a.put o.dst undef) w') : wpList Try.prog ops Q (o :: rest) a w := by
  refine wpList_skip_ hg ?_ (hK (w.setRow b cs) (hB.row cs) (by unfold World.setRow; simp) ((Only.refl (fun c => c = b) w).setRow (.inl rfl) cs))
  obtain ⟨dst, op, ty, pos, after, guard⟩ := o
  simp only at h
  subst h
  have := run_storeCells_from (P := Try.prog) b T cs.toList 0 cur w hB (by simp [hc]) h1
  simp at this
  have hst : (storeVar T ⟨b, 0, none⟩ (.agg cs)).run Try.prog w = .ok () (w.setRow b cs) := by
    simp only [storeVar, Sem.run_bind, hT, Result.andThen]
    by_cases hz : cs.size = 0
    · simp_all [Value.cells, Result.andThen]
    · simp [Value.cells, this, Result.andThen]
  simp [execOp, hx, hy, Instr.storeAt, Instr.sureAddr, hst, Result.andThen]
end Go.Proofs.Ytkjfbojmkkdgoaa
