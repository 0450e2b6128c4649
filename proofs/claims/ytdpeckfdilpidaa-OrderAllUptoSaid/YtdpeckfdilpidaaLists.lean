/- Lists of lists of whole numbers, all of the call's own: how they stand in memory, and what an append and a store make of them. No program here. -/
import Derived.Test.YtdpeckfdilpidaaMem
set_option linter.unusedVariables false
set_option linter.unusedSimpArgs false
namespace Go.Proofs.Ytdpeckfdilpidaa
open Go.RowKit
def updf {α : Type} (f : Nat → α) (k : Nat) (x : α) : Nat → α := fun a => if a = k then x else f a
theorem updf_same {α : Type} (f : Nat → α) (k : Nat) (x : α) : updf f k x k = x := by simp [updf]
theorem updf_other {α : Type} (f : Nat → α) (k : Nat) (x : α) {a : Nat} (h : a ≠ k) : updf f k x a = f a := by simp [updf, h]
def heads (N : Nat) (V : Nat → Value) : List Value := (List.range N).map V
theorem heads_get (N : Nat) (V : Nat → Value) {k : Nat} (h : k < N) : (heads N V)[k]? = some (V k) := by simp [heads, h]
theorem heads_push (N : Nat) (V : Nat → Value) (u : Value) : heads N V ++ [u] = heads (N + 1) (updf V N u) := by
  unfold heads
  rw [List.range_succ, List.map_append]
  congr 1
  · apply List.map_congr_left
    intro a ha
    rw [updf_other]
    have := List.mem_range.1 ha
    omega
  · simp [updf]
/-- N lists at v (its elements of the slice type t), the k-th at V k: the numbers X k; all blocks among F. -/
structure LL (w : World) (F : Nat → Prop) (t : TypeId) (v : Value) (N : Nat) (V : Nat → Value) (X : Nat → List Int) : Prop where
  row : Row w F t 1 v N (heads N V)
  rows : ∀ k, k < N → Row w F 3 1 (V k) (X k).length (nums (X k))
  ns : ∀ k k', k < N → k' < N → k ≠ k' → ∀ b, (V k).ownBlock = some b → (V k').ownBlock ≠ some b
section
variable {w w' w1 : World} {F G : Nat → Prop} {t : TypeId} {v : Value} {N : Nat} {V : Nat → Value} {X : Nat → List Int}
theorem LL.empty (w : World) (F : Nat → Prop) (t : TypeId) (V : Nat → Value) (X : Nat → List Int) : LL w F t (.slice none 0 0) 0 V X :=
  ⟨Row.nil_ _ _ _ _, fun k h => absurd h (Nat.not_lt_zero _), fun k _ h => absurd h (Nat.not_lt_zero _)⟩
theorem LL.only (h : LL w F t v N V X) (ho : Only G w w') (hd : ∀ b, b < w.heap.size → F b → ¬ G b) : LL w' F t v N V X :=
  ⟨h.row.only ho fun b hb => hd b (h.row.lt hb) (h.row.2 b hb), fun k hk => (h.rows k hk).only ho fun b hb => hd b ((h.rows k hk).lt hb) ((h.rows k hk).2 b hb), h.ns⟩
theorem LL.more (h : LL w F t v N V X) (hG : ∀ b, b < w.heap.size → F b → G b) : LL w G t v N V X :=
  ⟨h.row.mono hG, fun k hk => (h.rows k hk).mono hG, h.ns⟩
theorem LL.congr {X' : Nat → List Int} (h : LL w F t v N V X) (he : ∀ k, k < N → X k = X' k) : LL w F t v N V X' :=
  ⟨h.row, fun k hk => by rw [← he k hk]; exact h.rows k hk, h.ns⟩
theorem LL.head_cell {vb cap : Nat} (h : LL w F t (.slice (some ⟨vb, 0, none⟩) N cap) N V X) {k : Nat} (hk : k < N) : w.cell? ⟨vb, k, none⟩ = some (V k) := h.row.cell (heads_get N V hk)
theorem LL.num_cell {nb cap : Nat} (h : LL w F t v N V X) {k : Nat} (hk : k < N) (hV : V k = .slice (some ⟨nb, 0, none⟩) (X k).length cap) {i : Nat} (hi : i < (X k).length) : w.cell? ⟨nb, i, none⟩ = some (.int .i64 ((X k).getD i 0)) := by
  have := h.rows k hk
  rw [hV] at this
  exact this.cell (nums_get _ _ hi)
/-- A store into one of the lists. -/
theorem LL.stored {nb cap : Nat} (ht : t ≠ 3) (h : LL w F t v N V X) {k : Nat} (hk : k < N) (hV : V k = .slice (some ⟨nb, 0, none⟩) (X k).length cap) (i : Nat) (x : Int) :
    LL (w.setCell ⟨nb, i, none⟩ (.int .i64 x)) F t v N V (updf X k ((X k).set i x)) ∧ F nb := by
  have hrk := h.rows k hk
  have hnb : (V k).ownBlock = some nb := by rw [hV]; rfl
  refine ⟨⟨?_, fun k' hk' => ?_, h.ns⟩, hrk.2 nb hnb⟩
  · refine h.row.far (p := ⟨nb, i, none⟩) ?_ _
    rcases h.row.ne_type hrk ht with e | e
    · rw [e]; simp
    · rw [hnb] at e; exact e
  · by_cases he : k' = k
    · subst he
      rw [updf_same, List.length_set, ← nums_set]
      rw [hV] at hrk ⊢
      exact hrk.stored i _
    · rw [updf_other _ _ _ he]
      exact (h.rows k' hk').far (p := ⟨nb, i, none⟩) (h.ns k k' hk hk' (Ne.symm he) nb hnb) _
/-- A list more: the row of heads was grown by one. -/
theorem LL.pushed (ht : t ≠ 3) (h : LL w F t v N V X) {u v1 : Value} {l : List Int} {G : Nat → Prop} (hu : Row w G 3 1 u l.length (nums l)) (hG : ∀ b, G b → ¬ F b)
    (hown : w1.ownsRow 0 t 1 v1 (N + 1) (heads N V ++ [u])) (hg : w.grownBy w1 v.ownBlock) :
    LL w1 (fun b => F b ∨ G b ∨ v1.ownBlock = some b) t v1 (N + 1) (updf V N u) (updf X N l) := by
  refine ⟨⟨by rw [← heads_push]; exact hown, fun b hb => .inr (.inr hb)⟩, fun k hk => ?_, fun k k' hk hk' hne b hb => ?_⟩
  · by_cases he : k = N
    · subst he
      rw [updf_same, updf_same]
      exact (hu.grown hg (hu.ne_type h.row (Ne.symm ht))).mono fun b _ hb => .inr (.inl hb)
    · rw [updf_other _ _ _ he, updf_other _ _ _ he]
      have h0 := h.rows k (by omega)
      exact (h0.grown hg (h0.ne_type h.row (Ne.symm ht))).mono fun b _ hb => .inl hb
  · by_cases he : k = N
    · subst he
      rw [updf_same] at hb
      rw [updf_other _ _ _ (Ne.symm hne)]
      intro h2
      exact hG b (hu.2 b hb) ((h.rows k' (by omega)).2 b h2)
    · rw [updf_other _ _ _ he] at hb
      by_cases he' : k' = N
      · subst he'
        rw [updf_same]
        intro h2
        exact hG b (hu.2 b h2) ((h.rows k (by omega)).2 b hb)
      · rw [updf_other _ _ _ he']
        exact h.ns k k' (by omega) (by omega) hne b hb
end
/-- A block just made, of numbers alone, is a row of the call's own. -/
theorem Row.fresh {w : World} {b : Nat} {l : List Int} {cs : Array Value} (hb : w.heap[b]? = some (.cells cs 3 (0, 0))) (hc : cs.toList = nums l) (hm : l.length ≤ maxLen) : Row w (fun x => x = b) 3 1 (.slice (some ⟨b, 0, none⟩) l.length l.length) l.length (nums l) := by
  refine ⟨⟨by simp [nums], .inr ⟨b, l.length, cs, rfl, Nat.zero_le _, hb, Nat.le_refl _, hm, ?_, ?_⟩⟩, fun x hx => ?_⟩
  · have : cs.toList.length = (nums l).length := by rw [hc]
    simpa [nums] using this
  · rw [hc, List.take_of_length_le]; simp [nums]
  · simp [Value.ownBlock] at hx; exact hx.symm
end Go.Proofs.Ytdpeckfdilpidaa
