/- OrderChain: the walk. -/
import Derived.Test.YtdpeckfdilpidaaW6
import Derived.Test.YtdpeckfdilpidaaPlain4
import Derived.Test.YtdpeckfdilpidaaLists2
set_option linter.unusedVariables false
set_option linter.unusedSimpArgs false
namespace Go.Proofs.Ytdpeckfdilpidaa
open Go.RowKit
attribute [local go_sem ↓] Go.wp_at_zero Go.wp_at_succ
theorem info27 : (Try.prog.info? 27).map (fun i => (i.zero, i.size, i.bytes)) = some (some (.slice none 0 0), 1, 24) := by kernel_rfl
theorem made_lists (n : Nat) (hn : n ≤ 1000000) : ∃ Z : Array Value, Z.toList = heads n (fun _ => .slice none 0 0) ∧ ∀ W' : World, (Instr.makeSlice 22 (.int .i64 (n : Int)) (.int .i64 (n : Int))).run Try.prog W' = .ok (.slice (some ⟨W'.heap.size, 0, none⟩) n n) (W'.alloc (.cells Z 27)) := by
  obtain ⟨i0, hI, hz0, hz1, hz2⟩ := info_parts info27
  refine ⟨madeCells (Value.slice none 0 0).cells (n * 1), ?_, fun W' => ?_⟩
  · apply List.ext_getElem?
    intro i
    by_cases hi : i < n
    · rw [heads_get n _ hi]
      simp [madeCells, Value.cells, hi, Nat.mod_one]
    · have h1 : (heads n (fun _ => Value.slice none 0 0))[i]? = none := by simp [heads]; omega
      rw [h1]
      simp [madeCells, Value.cells]; omega
  · have := run_makeSlice (P := Try.prog) (w := W') 22 27 i0 (.slice none 0 0) Try.underlying22 hI hz0 .i64 .i64 (n : Int) (n : Int) (by omega) (Int.le_refl _) (by rw [hz1]; simp; omega) (by rw [hz2]; simp; omega) (by omega)
    rw [hz1] at this
    simpa using this
/-- The first i links are laid. -/
def ChainAt (w wr : World) (tb n i : Nat) : Prop := Below w.heap.size w wr ∧ ∃ (F : Nat → Prop) (V : Nat → Value), LL wr F 27 (.slice (some ⟨tb, 0, none⟩) n n) n V (fun k => if k < i then [((k + 1 : Nat) : Int)] else []) ∧ (∀ b, F b → w.heap.size ≤ b ∧ b < wr.heap.size) ∧ ∀ k, i ≤ k → V k = .slice none 0 0
theorem ChainAt.next {w wr : World} {tb n i : Nat} (h : ChainAt w wr tb n i) (hi : i < n) : ChainAt w ((wr.alloc (.cells #[.int .i64 ((i : Int) + 1)] 3)).setCell ⟨tb, i, none⟩ (.slice (some ⟨wr.heap.size, 0, none⟩) 1 1)) tb n (i + 1) := by
  obtain ⟨hb, F, V, hl, hF, hV⟩ := h
  have hs := hb.size
  have l1 := hl.only ((Only.refl (fun _ => False) wr).alloc (.cells #[.int .i64 ((i : Int) + 1)] 3)) (fun _ _ _ h => h)
  have hu := Row.fresh (w := wr.alloc (.cells #[.int .i64 ((i : Int) + 1)] 3)) (b := wr.heap.size) (l := [(i : Int) + 1]) (heap_alloc_new wr _) rfl (by simp [maxLen])
  have l2 := l1.put (by decide) (k := i) hu (fun b hb hf => by have := (hF b hf).2; omega)
  have htb : F tb := hl.row.2 tb rfl
  have sz : ((wr.alloc (.cells #[.int .i64 ((i : Int) + 1)] 3)).setCell ⟨tb, i, none⟩ (.slice (some ⟨wr.heap.size, 0, none⟩) 1 1)).heap.size = wr.heap.size + 1 := by simp [World.setCell]
  refine ⟨?_, _, _, l2.congr (fun k hk => ?_), fun b hb => ?_, fun k hk => ?_⟩
  · exact hb.trans ((((Only.refl (fun k => k = tb) wr).alloc _).setCell (p := ⟨tb, i, none⟩) (.inl rfl) _).toBelow hs fun k hk e => by have := (hF tb htb).1; omega)
  · by_cases he : k = i
    · subst he; rw [updf_same, if_pos (by omega)]; rfl
    · rw [updf_other _ _ _ he]
      by_cases h2 : k < i
      · rw [if_pos h2, if_pos (by omega)]
      · rw [if_neg h2, if_neg (by omega)]
  · rw [sz]
    rcases hb with h1 | h1
    · have := hF b h1; omega
    · omega
  · rw [updf_other _ _ _ (by omega)]
    exact hV k (by omega)
end Go.Proofs.Ytdpeckfdilpidaa
