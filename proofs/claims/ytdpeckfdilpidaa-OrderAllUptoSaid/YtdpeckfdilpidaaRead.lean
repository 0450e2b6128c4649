/- Lists of lists that a call only reads: where they stand; an argument opened so. No program here. -/
import Derived.Test.YtdpeckfdilpidaaLists
import Derived.Test.YtdpeckfdilpidaaArgs
set_option linter.unusedVariables false
set_option linter.unusedSimpArgs false
namespace Go.Proofs.Ytdpeckfdilpidaa
open Go.ChangeShapes Go.WideShapes Go.Deep Go.RowKit
/-- A list of whole numbers that can be read at A, its blocks among G. -/
def RL (w : World) (G : Nat → Prop) (A : Option Addr) (l : List Int) : Prop :=
  l.length ≤ 9223372036854775807 ∧ ∀ i, i < l.length → i64in (l.getD i 0) ∧ ∃ b off, A = some ⟨b, off, none⟩ ∧ G b ∧ b < w.heap.size ∧ w.cell? ⟨b, off + i, none⟩ = some (.int .i64 (l.getD i 0))
/-- 'len' lists that can be read at A. -/
structure RLL (w : World) (G : Nat → Prop) (A : Option Addr) (len : Nat) (X : Nat → List Int) : Prop where
  big : len ≤ 9223372036854775807
  at_ : ∀ k, k < len → ∃ b off Ak ck, A = some ⟨b, off, none⟩ ∧ G b ∧ b < w.heap.size ∧ w.cell? ⟨b, off + k, none⟩ = some (.slice Ak (X k).length ck) ∧ RL w G Ak (X k)
section
variable {w w' : World} {F G G' : Nat → Prop} {A : Option Addr} {len : Nat} {X : Nat → List Int} {l : List Int}
theorem RL.only (h : RL w G A l) (ho : Only F w w') (hd : ∀ b, b < w.heap.size → G b → ¬ F b) : RL w' G A l :=
  ⟨h.1, fun i hi => let ⟨h1, b, off, h2, h3, h4, h5⟩ := h.2 i hi; ⟨h1, b, off, h2, h3, Nat.lt_of_lt_of_le h4 ho.size, (ho.cell h4 (hd b h4 h3)).trans h5⟩⟩
theorem RL.more (h : RL w G A l) (hG : ∀ b, b < w.heap.size → G b → G' b) : RL w G' A l :=
  ⟨h.1, fun i hi => let ⟨h1, b, off, h2, h3, h4, h5⟩ := h.2 i hi; ⟨h1, b, off, h2, hG b h4 h3, h4, h5⟩⟩
theorem RLL.only (h : RLL w G A len X) (ho : Only F w w') (hd : ∀ b, b < w.heap.size → G b → ¬ F b) : RLL w' G A len X :=
  ⟨h.big, fun k hk => let ⟨b, off, Ak, ck, h1, h2, h3, h4, h5⟩ := h.at_ k hk; ⟨b, off, Ak, ck, h1, h2, Nat.lt_of_lt_of_le h3 ho.size, (ho.cell h3 (hd b h3 h2)).trans h4, h5.only ho hd⟩⟩
theorem RLL.more (h : RLL w G A len X) (hG : ∀ b, b < w.heap.size → G b → G' b) : RLL w G' A len X :=
  ⟨h.big, fun k hk => let ⟨b, off, Ak, ck, h1, h2, h3, h4, h5⟩ := h.at_ k hk; ⟨b, off, Ak, ck, h1, hG b h3 h2, h3, h4, h5.more hG⟩⟩
/-- A row of the call's own can be read. -/
theorem Row.reads {v : Value} {n : Nat} (h : Row w F 3 1 v n (nums l)) (hl : ∀ i, i < l.length → i64in (l.getD i 0)) (hb : l.length ≤ 9223372036854775807) : ∃ A cap, v = .slice A l.length cap ∧ RL w F A l := by
  have hn : n = l.length := by have := h.len; simp [nums] at this; omega
  subst hn
  obtain ⟨A, cap, hv, _⟩ := h.shape
  refine ⟨A, cap, hv, hb, fun i hi => ⟨hl i hi, ?_⟩⟩
  obtain ⟨g, cap', hv', hF, hlt, _⟩ := h.form (by omega)
  rw [hv] at hv'
  injection hv' with hA _ _
  subst hA
  rw [hv] at h
  exact ⟨g, 0, rfl, hF, hlt, by rw [Nat.zero_add]; exact h.cell (nums_get l i hi)⟩
end
section
variable {H : Type} {enc : TypeId × Value → H} {P : Program} {w : World} {base : Nat} {spare : Nat → Bool} {held : Bool}
theorem open_list {e k : TypeId} {n : Nat} {v : Value} {x : DataW H × List MemPlace} (he : P.underlying e = some (.slice k)) (hk : P.underlying k = some (.int .i64)) (hck : P.cellsOf k = 1)
    (h : DataW.trod enc P w base spare held n e [v] = some x) : ∃ Ak ck l, v = .slice Ak (List.length l) ck ∧ RL w (fun b => b < w.heap.size) Ak l := by
  rcases open_slice1 he hck h with ⟨hcs, _⟩ | ⟨a, l, c, m, n', V, D, Pl, hcs, hb, hl, hm, hmm, hx, hi⟩
  · exact ⟨none, 0, [], by simpa using hcs, by simp, fun i hi => absurd hi (Nat.not_lt_zero _)⟩
  · have hlm : l ≤ m := by rw [hmm]; split <;> omega
    have one : ∀ i, i < l → ∃ z : Int, (Lit.int .i64 z).wf = true ∧ w.cell? (a.add i) = some (.int .i64 z) := by
      intro i hil
      obtain ⟨h1, h2⟩ := hi i (by omega)
      obtain ⟨z, hz, _, hwf⟩ := DataW.trod_int hk h2
      refine ⟨z, hwf, ?_⟩
      have hz' : V i = .int .i64 z := by simpa using hz
      rw [h1, hz']
    obtain ⟨F, hF⟩ := choose_lt one
    refine ⟨some a, c, (List.range l).map F, by simpa using hcs, by simp only [maxLen] at hm; simp; omega, fun i hil => ?_⟩
    have hil' : i < l := by simpa using hil
    have hg : ((List.range l).map F).getD i 0 = F i := by simp [List.getD_eq_getElem?_getD, hil']
    rw [hg]
    obtain ⟨b, off, spot⟩ := a
    have h0 := (hF i hil').2
    have hspot : spot = none := by simpa [Addr.add] using World.cell?_spot (hF 0 (by omega)).2
    subst hspot
    rw [Go.WideShapes.add_plain] at h0
    exact ⟨of_wf (hF i hil').1, b, off, rfl, World.block_lt_of_cell? w _ h0, World.block_lt_of_cell? w _ h0, h0⟩
theorem open_lists {t e k : TypeId} {A : Option Addr} {len cap : Nat} {d : DataW H} {p : List MemPlace} (ht : P.underlying t = some (.slice e)) (he : P.underlying e = some (.slice k)) (hk : P.underlying k = some (.int .i64)) (hce : P.cellsOf e = 1) (hck : P.cellsOf k = 1)
    (h : DataW.Trod enc P w base spare held t (.slice A len cap) d p) : ∃ X : Nat → List Int, RLL w (fun b => b < w.heap.size) A len X := by
  obtain ⟨fuel, hf⟩ := h
  rcases open_slice1 ht hce hf with ⟨hcs, _⟩ | ⟨a, l, c, m, n, V, D, Pl, hcs, hb, hl, hm, hmm, hx, hi⟩
  · simp [Value.cells] at hcs
    obtain ⟨rfl, rfl, rfl⟩ := hcs
    exact ⟨fun _ => [], by omega, fun k hk => absurd hk (Nat.not_lt_zero _)⟩
  · simp [Value.cells] at hcs
    obtain ⟨rfl, rfl, rfl⟩ := hcs
    have hlm : len ≤ m := by rw [hmm]; split <;> omega
    obtain ⟨X, hX⟩ := choose_lt (α := List Int) (p := fun i l => ∃ Ak ck, V i = .slice Ak l.length ck ∧ RL w (fun b => b < w.heap.size) Ak l) (fun i (hil : i < len) => by
      obtain ⟨h1, h2⟩ := hi i (by omega)
      obtain ⟨Ak, ck, l, h3, h4⟩ := open_list he hk hck h2
      exact ⟨l, Ak, ck, h3, h4⟩)
    refine ⟨X, by simp only [maxLen] at hm; omega, fun i hil => ?_⟩
    obtain ⟨Ak, ck, h3, h4⟩ := hX i hil
    have h0 := (hi i (by omega)).1
    obtain ⟨b, off, spot⟩ := a
    have hspot : spot = none := by simpa [Addr.add] using World.cell?_spot (hi 0 (by omega)).1
    subst hspot
    rw [Go.WideShapes.add_plain, h3] at h0
    exact ⟨b, off, Ak, ck, rfl, World.block_lt_of_cell? w _ h0, World.block_lt_of_cell? w _ h0, h0, h4⟩
end
end Go.Proofs.Ytdpeckfdilpidaa
