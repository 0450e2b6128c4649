/- order.Line's rounds: what a block that is done and a way that is gone over make of its variables. -/
import Derived.Test.YtdpeckfdilpidaaW2
import Derived.WalkSmall
set_option linter.unusedVariables false
set_option linter.unusedSimpArgs false
namespace Go.Proofs.Ytdpeckfdilpidaa
open Go.RowKit
theorem pairs_set (op : List (Nat × Nat)) (b l l' : Nat) : (pairs (op ++ [(b, l)])).set (op.length * 2 + 1) (.int .i64 (l' : Int)) = pairs (op ++ [(b, l')]) := by
  rw [pairs_append, pairs_append, List.set_append_right _ _ (by rw [pairs_length]; omega), pairs_length]
  congr 1
  rw [show op.length * 2 + 1 - op.length * 2 = 1 by omega]
  rfl
theorem pairs_at (op : List (Nat × Nat)) (b l : Nat) : (pairs (op ++ [(b, l)]))[op.length * 2]? = some (.int .i64 (b : Int)) ∧ (pairs (op ++ [(b, l)]))[op.length * 2 + 1]? = some (.int .i64 (l : Int)) := by
  rw [pairs_append]
  refine ⟨?_, ?_⟩
  · rw [List.getElem?_append_right (by rw [pairs_length]; omega), pairs_length, Nat.sub_self]; rfl
  · rw [List.getElem?_append_right (by rw [pairs_length]; omega), pairs_length, show op.length * 2 + 1 - op.length * 2 = 1 by omega]; rfl
section
variable {w : World} {G FO : Nat → Prop} {A : Option Addr} {len cap : Nat} {X : Nat → List Int} {t1 s7 sb o8 ob oc : Nat} {seen : Nat → Bool} {op : List (Nat × Nat)} {b l : Nat} {done : List Nat}
/-- The top is done: the open ones are one shorter. -/
theorem LM.popped (h : LM w G FO A len cap X t1 s7 sb o8 (.slice (some ⟨ob, 0, none⟩) (op.length + 1) oc) ⟨seen, op ++ [(b, l)], done⟩) (d' : List Nat) :
    LM (w.setCell ⟨o8, 0, none⟩ (.slice (some ⟨ob, 0, none⟩) op.length oc)) G FO A len cap X t1 s7 sb o8 (.slice (some ⟨ob, 0, none⟩) op.length oc) ⟨seen, op, d'⟩ ∧ Only (fun k => k = o8) w (w.setCell ⟨o8, 0, none⟩ (.slice (some ⟨ob, 0, none⟩) op.length oc)) := by
  have n2 : t1 ≠ o8 := h.to_.ne_ h.opB (by decide)
  have n4 : s7 ≠ o8 := h.seenB.ne_ h.opB (by decide)
  have n5 : sb ≠ o8 := h.seen.ne_ h.opB (by decide)
  have hop := h.op
  simp only [List.length_append, List.length_singleton, pairs_append] at hop
  have hp : w.ownsRow 0 41 2 (.slice (some ⟨ob, 0, none⟩) op.length oc) op.length (pairs op) := ownsRow_pop (by rw [pairs_length]) hop.1
  have hr : Row w FO 41 2 (.slice (some ⟨ob, 0, none⟩) op.length oc) op.length (pairs op) := ⟨hp, fun k hk => hop.2 k hk⟩
  have o3 : Only (fun k => k = o8) w (w.setCell ⟨o8, 0, none⟩ (.slice (some ⟨ob, 0, none⟩) op.length oc)) := (Only.refl (fun k => k = o8) w).setCell (p := ⟨o8, 0, none⟩) (.inl rfl) _
  refine ⟨⟨h.to_.only o3 n2, h.rl.only o3 fun k _ hk e => (h.gG k hk).2.2.2.1 e, h.seenB.only o3 n4, h.seen.only o3 n5, ?_, hr.far (p := ⟨o8, 0, none⟩) (own_blk_ne hp h.opB (by decide)) _, h.gG⟩, o3⟩
  have := h.opB.set_ 0 (.slice (some ⟨ob, 0, none⟩) op.length oc)
  simpa using this
/-- A way is gone over. -/
theorem LM.gone (h : LM w G FO A len cap X t1 s7 sb o8 (.slice (some ⟨ob, 0, none⟩) (op.length + 1) oc) ⟨seen, op ++ [(b, l)], done⟩) (l' : Nat) :
    LM (w.setCell ⟨ob, op.length * 2 + 1, none⟩ (.int .i64 (l' : Int))) G FO A len cap X t1 s7 sb o8 (.slice (some ⟨ob, 0, none⟩) (op.length + 1) oc) ⟨seen, op ++ [(b, l')], done⟩ ∧ Only (fun k => k = ob) w (w.setCell ⟨ob, op.length * 2 + 1, none⟩ (.int .i64 (l' : Int))) := by
  have b1 : ob ≠ t1 := fun e => own_blk_ne h.op.1 h.to_ (by decide) (by rw [← e]; rfl)
  have b2 : ob ≠ s7 := fun e => own_blk_ne h.op.1 h.seenB (by decide) (by rw [← e]; rfl)
  have b3 : ob ≠ sb := fun e => own_blk_ne h.op.1 h.seen (by decide) (by rw [← e]; rfl)
  have b4 : ob ≠ o8 := fun e => own_blk_ne h.op.1 h.opB (by decide) (by rw [← e]; rfl)
  have o3 : Only (fun k => k = ob) w (w.setCell ⟨ob, op.length * 2 + 1, none⟩ (.int .i64 (l' : Int))) := (Only.refl (fun k => k = ob) w).setCell (p := ⟨ob, op.length * 2 + 1, none⟩) (.inl rfl) _
  have hop := h.op
  simp only [List.length_append, List.length_singleton] at hop
  have hr := hop.stored (op.length * 2 + 1) (.int .i64 (l' : Int))
  rw [pairs_set] at hr
  refine ⟨⟨h.to_.only o3 (Ne.symm b1), h.rl.only o3 fun k _ hk e => (h.gG k hk).2.2.2.2 (by rw [e]; exact h.op.2 ob rfl), h.seenB.only o3 (Ne.symm b2), h.seen.only o3 (Ne.symm b3), h.opB.only o3 (Ne.symm b4), ?_, h.gG⟩, o3⟩
  simpa using hr
end
end Go.Proofs.Ytdpeckfdilpidaa
