/- Lists of lists that come in: how much they hold. No program here. -/
import Derived.Test.YtdpeckfdilpidaaRead
import Derived.Test.YtdpeckfdilpidaaRows
set_option linter.unusedVariables false
set_option linter.unusedSimpArgs false
namespace Go.Proofs.Ytdpeckfdilpidaa
open Go.ChangeShapes Go.WideShapes Go.Deep Go.RowKit
def sumTo (f : Nat → Nat) : Nat → Nat
  | 0 => 0
  | n + 1 => sumTo f n + f n
theorem sumTo_at (f : Nat → Nat) {k : Nat} : ∀ {n : Nat}, k < n → f k ≤ sumTo f n
  | 0, h => absurd h (Nat.not_lt_zero _)
  | n + 1, h => by
    unfold sumTo
    by_cases hk : k = n
    · subst hk; omega
    · have := sumTo_at f (n := n) (k := k) (by omega); omega
section
variable {H : Type} {enc : TypeId × Value → H} {P : Program} {w : World} {base : Nat} {spare : Nat → Bool} {held : Bool}
theorem bulk_app (l r : List (DataW H)) : Rows.uptoBulkAll (l ++ r) = Rows.uptoBulkAll l + Rows.uptoBulkAll r := by
  induction l with
  | nil => simp [Rows.uptoBulkAll]
  | cons x l ih => simp only [List.cons_append, Rows.uptoBulkAll, ih]; omega
theorem bulk_range (D : Nat → DataW H) (c : Nat → Nat) : ∀ n, (∀ i, i < n → c i + 1 ≤ Rows.uptoBulk (D i)) → sumTo c n + n ≤ Rows.uptoBulkAll ((List.range n).map D)
  | 0, _ => by simp [sumTo]
  | n + 1, h => by
    have h1 := bulk_range D c n (fun i hi => h i (by omega))
    have h2 := h n (Nat.lt_succ_self _)
    rw [List.range_succ, List.map_append, bulk_app]
    simp only [sumTo, List.map_cons, List.map_nil, Rows.uptoBulkAll]
    omega
theorem weights_of_mem {p : Nat → Bool} {e : TypeId} {d : DataW H} : ∀ {l : List (DataW H)}, (DataW.weightsAll P e l).all p = true → d ∈ l → (d.weights P e).all p = true
  | [], _, hm => by cases hm
  | x :: l, h, hm => by
    rw [DataW.weightsAll, List.all_append, Bool.and_eq_true] at h
    rcases List.mem_cons.1 hm with rfl | hm
    · exact h.1
    · exact weights_of_mem h.2 hm
theorem weights_slice {p : Nat → Bool} {t e : TypeId} {l s : List (DataW H)} (ht : P.underlying t = some (.slice e)) (h : ((DataW.slice l s).weights P t).all p = true) : p ((l.length + s.length) * P.bytesOf e) = true ∧ (DataW.weightsAll P e l).all p = true := by
  unfold DataW.weights at h
  rw [ht] at h
  simp only [List.all_cons, List.all_append, Bool.and_eq_true] at h
  exact ⟨h.1, h.2.1⟩
theorem one_bulk (d : DataW H) : 1 ≤ Rows.uptoBulk d := by
  cases d with
  | lit l => cases l <;> simp [Rows.uptoBulk]
  | nil => simp [Rows.uptoBulk]
  | ptr d => simp [Rows.uptoBulk]
  | slice elems spare => simp [Rows.uptoBulk]
  | agg parts => simp [Rows.uptoBulk]
  | iface t d => simp [Rows.uptoBulk]
  | map entries => simp [Rows.uptoBulk]
  | held h => simp [Rows.uptoBulk]
theorem open_list_d {e k : TypeId} {n : Nat} {v : Value} {x : DataW H × List MemPlace} (he : P.underlying e = some (.slice k)) (hk : P.underlying k = some (.int .i64)) (hck : P.cellsOf k = 1)
    (h : DataW.trod enc P w base spare held n e [v] = some x) : ∃ Ak ck l, v = .slice Ak (List.length l) ck ∧ RL w (fun b => b < w.heap.size) Ak l ∧ l.length + 1 ≤ Rows.uptoBulk x.1 ∧ (∀ M : Nat, (x.1.weights P e).all (· ≤ M) = true → l.length * P.bytesOf k ≤ M) := by
  obtain ⟨Ak, ck, l, hv, hr⟩ := open_list he hk hck h
  refine ⟨Ak, ck, l, hv, hr, ?_⟩
  rcases open_slice1 he hck h with ⟨hcs, hx⟩ | ⟨a, l', c, m, n', V, D, Pl, hcs, hb, hl, hm, hmm, hx, hi⟩
  · rw [hv] at hcs
    simp only [List.cons.injEq, Value.slice.injEq, and_true] at hcs
    have hl : l.length = 0 := hcs.2.1
    rw [hl]
    exact ⟨one_bulk _, fun M _ => by omega⟩
  · rw [hv] at hcs
    simp only [List.cons.injEq, Value.slice.injEq, and_true] at hcs
    obtain ⟨_, hl, _⟩ := hcs
    subst hl
    subst hx
    refine ⟨?_, fun M hM => ?_⟩
    · have := bulk_range D (fun _ => 0) l.length (fun i hi => one_bulk _)
      show _ ≤ Rows.uptoBulk (.slice _ _)
      simp only [Rows.uptoBulk]
      omega
    · have := (weights_slice he hM).1
      have h2 := of_decide_eq_true this
      simp at h2
      exact Nat.le_trans (Nat.mul_le_mul_right _ (Nat.le_add_right _ _)) h2
theorem open_lists_d {t e k : TypeId} {A : Option Addr} {len cap : Nat} {d : DataW H} {p : List MemPlace} (ht : P.underlying t = some (.slice e)) (he : P.underlying e = some (.slice k)) (hk : P.underlying k = some (.int .i64)) (hce : P.cellsOf e = 1) (hck : P.cellsOf k = 1)
    (h : DataW.Trod enc P w base spare held t (.slice A len cap) d p) : ∃ X : Nat → List Int, RLL w (fun b => b < w.heap.size) A len X ∧ len + sumTo (fun j => (X j).length) len + 1 ≤ Rows.uptoBulk d ∧
      (∀ M : Nat, (d.weights P t).all (· ≤ M) = true → len * P.bytesOf e ≤ M ∧ ∀ j, j < len → (X j).length * P.bytesOf k ≤ M) := by
  obtain ⟨fuel, hf⟩ := h
  rcases open_slice1 ht hce hf with ⟨hcs, _⟩ | ⟨a, l, c, m, n, V, D, Pl, hcs, hb, hl, hm, hmm, hx, hi⟩
  · simp [Value.cells] at hcs
    obtain ⟨rfl, rfl, rfl⟩ := hcs
    exact ⟨fun _ => [], ⟨by omega, fun k hk => absurd hk (Nat.not_lt_zero _)⟩, by have := one_bulk d; simp [sumTo]; omega, fun M _ => ⟨by omega, fun j hj => absurd hj (Nat.not_lt_zero _)⟩⟩
  · simp [Value.cells] at hcs
    obtain ⟨rfl, rfl, rfl⟩ := hcs
    have hlm : len ≤ m := by rw [hmm]; split <;> omega
    obtain ⟨X, hX⟩ := choose_lt (α := List Int) (p := fun i l => (∃ Ak ck, V i = .slice Ak l.length ck ∧ RL w (fun b => b < w.heap.size) Ak l) ∧ l.length + 1 ≤ Rows.uptoBulk (D i) ∧ (∀ M : Nat, ((D i).weights P e).all (· ≤ M) = true → l.length * P.bytesOf k ≤ M)) (fun i (hil : i < len) => by
      obtain ⟨h1, h2⟩ := hi i (by omega)
      obtain ⟨Ak, ck, l, h3, h4, h5, h6⟩ := open_list_d he hk hck h2
      exact ⟨l, ⟨Ak, ck, h3, h4⟩, h5, h6⟩)
    have hd : d = .slice ((List.range len).map D) ((List.range (m - len)).map fun j => D (len + j)) := congrArg Prod.fst hx
    refine ⟨X, ⟨by simp only [maxLen] at hm; omega, fun i hil => ?_⟩, ?_, fun M hM => ?_⟩
    · obtain ⟨⟨Ak, ck, h3, h4⟩, _⟩ := hX i hil
      have h0 := (hi i (by omega)).1
      obtain ⟨b, off, spot⟩ := a
      have hspot : spot = none := by simpa [Addr.add] using World.cell?_spot (hi 0 (by omega)).1
      subst hspot
      rw [Go.WideShapes.add_plain, h3] at h0
      exact ⟨b, off, Ak, ck, rfl, World.block_lt_of_cell? w _ h0, World.block_lt_of_cell? w _ h0, h0, h4⟩
    · have := bulk_range D (fun j => (X j).length) len (fun i hi => (hX i hi).2.1)
      rw [hd]
      simp only [Rows.uptoBulk]
      omega
    · rw [hd] at hM
      obtain ⟨h1, h2⟩ := weights_slice ht hM
      have h3 := of_decide_eq_true h1
      simp at h3
      exact ⟨Nat.le_trans (Nat.mul_le_mul_right _ (Nat.le_add_right _ _)) h3, fun j hj => (hX j hj).2.2 M (weights_of_mem h2 (List.mem_map.2 ⟨j, List.mem_range.2 hj, rfl⟩))⟩
end
end Go.Proofs.Ytdpeckfdilpidaa
