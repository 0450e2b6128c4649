/- OrderAll: lists turned round where they stand; the argument. -/
import Derived.Test.YtdpeckfdilpidaaW21
import Derived.Test.YtdpeckfdilpidaaBulk
set_option linter.unusedVariables false
set_option linter.unusedSimpArgs false
namespace Go.Proofs.Ytdpeckfdilpidaa
open Go.RowKit
structure TR (w wr : World) (X : Nat → List Int) (n lb lc : Nat) (fv : Value) (F FL : Nat → Prop) (V : Nat → Value) (b4 b5 i k : Nat) (Y : Nat → List Int) : Prop where
  full : LL wr F 27 fv n V Y
  l : Row wr FL 27 1 (.slice (some ⟨lb, 0, none⟩) (n + 2) lc) (n + 2) (heads n (fun j => shorten (V j) (X j).length) ++ [.slice (some ⟨b4, 0, none⟩) 1 1, .slice (some ⟨b5, 0, none⟩) 1 1])
  len : ∀ j, j < n → (Y j).length = (X j).length + 3
  elem : ∀ j, j < n → ∀ t, t < (X j).length → (Y j).getD t 0 = if j < i ∨ (j = i ∧ t < k) then (X j).getD ((X j).length - 1 - t) 0 else (X j).getD t 0
  dj : ∀ b, F b → ¬ FL b
  only : Only F w wr
theorem shown_reads {wr : World} {F FL : Nat → Prop} {fv : Value} {n lb lc : Nat} {V : Nat → Value} {X Y Z : Nat → List Int} {tl : List Value} (hf : LL wr F 27 fv n V Y) (hl : Row wr FL 27 1 (.slice (some ⟨lb, 0, none⟩) (n + 2) lc) (n + 2) (heads n (fun j => shorten (V j) (X j).length) ++ tl))
    (hn : n ≤ 1000000) (hY : ∀ j, j < n → (Y j).length = (X j).length + 3) (hZ : ∀ j, j < n → (Z j).length = (X j).length ∧ (Z j).length ≤ 1000000 ∧ ∀ t, t < (Z j).length → (Y j).getD t 0 = (Z j).getD t 0 ∧ i64in ((Z j).getD t 0)) :
    RLL wr (fun b => b < wr.heap.size) (some ⟨lb, 0, none⟩) n Z := by
  refine ⟨by omega, fun k hk => ?_⟩
  have hr := hf.rows k hk
  obtain ⟨z1, z2, z3⟩ := hZ k hk
  obtain ⟨g, cap, hV, hF, hlt, hc⟩ := hr.form (by have := hY k hk; omega)
  have hlb := hl.lt (b := lb) rfl
  have hc0 := hl.cell (i := k) (u := shorten (V k) (X k).length) (by rw [List.getElem?_append_left (by simpa [heads] using hk), heads_get n _ hk])
  rw [hV] at hc0
  refine ⟨lb, 0, some ⟨g, 0, none⟩, cap, rfl, hlb, hlb, by rw [Nat.zero_add, z1]; exact hc0, by omega, fun i hi => ⟨(z3 i hi).2, g, 0, rfl, hlt, hlt, ?_⟩⟩
  rw [hV] at hr
  rw [Nat.zero_add]
  have := hr.cell (nums_get (Y k) i (by have := hY k hk; omega))
  rw [this, (z3 i hi).1]
section
variable {w wr w2 : World} {X Y : Nat → List Int} {n lb lc b4 b5 i k B : Nat} {fv : Value} {F FL : Nat → Prop} {V : Nat → Value}
theorem Lent.tr (h : Lent w B X n lb lc fv F FL V b4 b5) : TR w w X n lb lc fv F FL V b4 b5 0 0 (fun j => X j ++ marks) :=
  ⟨h.full, h.l, fun j _ => by rw [List.length_append]; rfl, fun j _ t ht => by
    rw [if_neg (by omega), List.getD_eq_getElem?_getD, List.getElem?_append_left ht, ← List.getD_eq_getElem?_getD], h.dj, Only.refl _ _⟩
theorem TR.drew (h : TR w wr X n lb lc fv F FL V b4 b5 i k Y) (m : Nat) : TR w (wr.drewN m) X n lb lc fv F FL V b4 b5 i k Y :=
  ⟨h.full.only ((Only.refl (fun _ => False) wr).drewN m) (fun _ _ _ h => h), h.l.drewN m, h.len, h.elem, h.dj, h.only.drewN m⟩
theorem TR.wrote {nb c : Nat} (h : TR w wr X n lb lc fv F FL V b4 b5 i k Y) (hi : i < n) (hk : k < (X i).length) (hV : V i = .slice (some ⟨nb, 0, none⟩) (Y i).length c) :
    ∃ Y', TR w (wr.setCell ⟨nb, k, none⟩ (.int .i64 ((X i).getD ((X i).length - 1 - k) 0))) X n lb lc fv F FL V b4 b5 i (k + 1) Y' := by
  obtain ⟨h1, h2⟩ := h.full.stored (by decide) hi hV k ((X i).getD ((X i).length - 1 - k) 0)
  have hYl := h.len i hi
  refine ⟨_, h1, h.l.far (p := ⟨nb, k, none⟩) (fun e => h.dj nb h2 (h.l.2 nb e)) _, fun j hj => ?_, fun j hj t ht => ?_, h.dj, h.only.setCell (p := ⟨nb, k, none⟩) (.inl h2) _⟩
  · by_cases he : j = i
    · subst he; rw [updf_same, List.length_set]; exact hYl
    · rw [updf_other _ _ _ he]; exact h.len j hj
  · by_cases he : j = i
    · subst he
      rw [updf_same, getD_set]
      by_cases ht2 : t = k
      · subst ht2
        rw [if_pos ⟨rfl, by omega⟩, if_pos (by omega)]
      · rw [if_neg (fun e => ht2 e.1), h.elem j hj t ht]
        by_cases hc : t < k
        · rw [if_pos (.inr ⟨rfl, hc⟩), if_pos (.inr ⟨rfl, by omega⟩)]
        · rw [if_neg (by omega), if_neg (by omega)]
    · rw [updf_other _ _ _ he, h.elem j hj t ht]
      by_cases hc : j < i
      · rw [if_pos (.inl hc), if_pos (.inl hc)]
      · rw [if_neg (by omega), if_neg (by omega)]
theorem TR.next (h : TR w wr X n lb lc fv F FL V b4 b5 i k Y) (hk : (X i).length ≤ k) : TR w wr X n lb lc fv F FL V b4 b5 (i + 1) 0 Y :=
  ⟨h.full, h.l, h.len, fun j hj t ht => by
    rw [h.elem j hj t ht]
    by_cases he : j = i
    · subst he; rw [if_pos (.inr ⟨rfl, by omega⟩), if_pos (.inl (by omega))]
    · by_cases hc : j < i
      · rw [if_pos (.inl hc), if_pos (.inl (by omega))]
      · rw [if_neg (by omega), if_neg (by omega)], h.dj, h.only⟩
theorem getD_reverse (l : List Int) {t : Nat} (h : t < l.length) : l.reverse.getD t 0 = l.getD (l.length - 1 - t) 0 := by
  rw [List.getD_eq_getElem?_getD, List.getElem?_reverse h, ← List.getD_eq_getElem?_getD]
theorem TR.turned (h : TR w wr X n lb lc fv F FL V b4 b5 n 0 Y) (hn : n ≤ 1000000) (hX : ∀ j, j < n → (X j).length ≤ 1000000 ∧ ∀ i, i < (X j).length → i64in ((X j).getD i 0)) : RLL wr (fun b => b < wr.heap.size) (some ⟨lb, 0, none⟩) n (fun j => (X j).reverse) :=
  shown_reads h.full h.l hn h.len fun j hj => ⟨List.length_reverse, by rw [List.length_reverse]; exact (hX j hj).1, fun t ht => by
    rw [List.length_reverse] at ht
    rw [h.elem j hj t ht, if_pos (.inl hj)]
    simp only [getD_reverse _ ht]
    exact ⟨trivial, (hX j hj).2 _ (by omega)⟩⟩
end
theorem TI.empty (w : World) (X : Nat → List Int) (V : Nat → Value) : TI w w X (.slice none 0 0) 0 (fun _ => False) V :=
  ⟨LL.empty _ _ _ _ _, fun _ h => h.elim, Below.refl _ _⟩
theorem TI.reads2 {w wr : World} {X : Nat → List Int} {A : Option Addr} {cap : Nat} {N : Nat} {F : Nat → Prop} {V : Nat → Value} (h : TI w wr X (.slice A N cap) N F V) (hN : N ≤ 1000000) (hx : ∀ k, k < N → (X k).length ≤ 1000000 ∧ ∀ i, i < (X k).length → i64in ((X k).getD i 0)) : RLL wr (fun b => b < wr.heap.size) A N X :=
  (h.ll.reads (by omega) fun k hk => ⟨by have := (hx k hk).1; omega, (hx k hk).2⟩).more fun b _ hb => (h.ft b hb).2
/-- Lists of lists of lists that can be read. -/
structure RLLL (w : World) (A : Option Addr) (len : Nat) (n : Nat → Nat) (X : Nat → Nat → List Int) : Prop where
  big : len ≤ 1048576
  at_ : ∀ i, i < len → ∃ b off Ai ci, A = some ⟨b, off, none⟩ ∧ b < w.heap.size ∧ w.cell? ⟨b, off + i, none⟩ = some (.slice Ai (n i) ci) ∧ RLL w (fun b => b < w.heap.size) Ai (n i) (X i)
  lens : ∀ i, i < len → n i ≤ 1048576 ∧ ∀ j, j < n i → (X i j).length ≤ 1048576
open Go.ChangeShapes Go.WideShapes Go.Deep in
theorem open_lists3 {H : Type} {enc : TypeId × Value → H} {P : Program} {w : World} {base : Nat} {spare : Nat → Bool} {held : Bool} {s t e k : TypeId} {A : Option Addr} {len cap : Nat} {d : DataW H} {p : List MemPlace} (hs : P.underlying s = some (.slice t)) (ht : P.underlying t = some (.slice e)) (he : P.underlying e = some (.slice k)) (hk : P.underlying k = some (.int .i64)) (hct : P.cellsOf t = 1) (hce : P.cellsOf e = 1) (hck : P.cellsOf k = 1)
    (h : DataW.Trod enc P w base spare held s (.slice A len cap) d p) (hb : Rows.uptoBulk d ≤ 1048576) : ∃ n X, RLLL w A len n X := by
  obtain ⟨fuel, hf⟩ := h
  rcases open_slice1 hs hct hf with ⟨hcs, _⟩ | ⟨a, l, c, m, n', V, D, Pl, hcs, hbb, hl, hm, hmm, hx, hi⟩
  · simp [Value.cells] at hcs
    obtain ⟨rfl, rfl, rfl⟩ := hcs
    exact ⟨fun _ => 0, fun _ _ => [], by omega, fun i hi => absurd hi (Nat.not_lt_zero _), fun i hi => absurd hi (Nat.not_lt_zero _)⟩
  · simp [Value.cells] at hcs
    obtain ⟨rfl, rfl, rfl⟩ := hcs
    have hlm : len ≤ m := by rw [hmm]; split <;> omega
    have hd : d = .slice ((List.range len).map D) ((List.range (m - len)).map fun j => D (len + j)) := congrArg Prod.fst hx
    have hall : ∀ i, i < len → ∃ Ai ci ni Xi, V i = .slice Ai ni ci ∧ RLL w (fun b => b < w.heap.size) Ai ni Xi ∧ ni + sumTo (fun j => (Xi j).length) ni + 1 ≤ Rows.uptoBulk (D i) := fun i hil => by
      obtain ⟨h1, h2⟩ := hi i (by omega)
      have h2' := h2
      rcases open_slice1 ht hce h2 with ⟨hcs, _⟩ | ⟨a', l', c', m', n'', V', D', Pl', hcs, _⟩
      · have hV : V i = .slice none 0 0 := by simpa using hcs
        rw [hV] at h2'
        obtain ⟨Xi, r, bk, _⟩ := open_lists_d ht he hk hce hck (d := D i) (p := Pl i) ⟨_, h2'⟩
        exact ⟨none, 0, 0, Xi, hV, r, bk⟩
      · have hV : V i = .slice (some a') l' c' := by simpa using hcs
        rw [hV] at h2'
        obtain ⟨Xi, r, bk, _⟩ := open_lists_d ht he hk hce hck (d := D i) (p := Pl i) ⟨_, h2'⟩
        exact ⟨some a', c', l', Xi, hV, r, bk⟩
    obtain ⟨f, hf2⟩ := choose_lt (α := (Option Addr × Nat) × Nat × (Nat → List Int)) (p := fun i f => V i = .slice f.1.1 f.2.1 f.1.2 ∧ RLL w (fun b => b < w.heap.size) f.1.1 f.2.1 f.2.2 ∧ f.2.1 + sumTo (fun j => (f.2.2 j).length) f.2.1 + 1 ≤ Rows.uptoBulk (D i)) (fun i hil => by
      obtain ⟨Ai, ci, ni, Xi, h1, h2, h3⟩ := hall i hil
      exact ⟨((Ai, ci), ni, Xi), h1, h2, h3⟩)
    have hsum := bulk_range D (fun i => (f i).2.1 + sumTo (fun j => ((f i).2.2 j).length) (f i).2.1) len (fun i hil => (hf2 i hil).2.2)
    have hB : Rows.uptoBulkAll ((List.range len).map D) ≤ 1048576 := by
      rw [hd] at hb
      simp only [Rows.uptoBulk] at hb
      omega
    refine ⟨fun i => (f i).2.1, fun i => (f i).2.2, by omega, fun i hil => ?_, fun i hil => ?_⟩
    · obtain ⟨h1, h2, _⟩ := hf2 i hil
      have h0 := (hi i (by omega)).1
      obtain ⟨b, off, spot⟩ := a
      have hspot : spot = none := by simpa [Addr.add] using World.cell?_spot (hi 0 (by omega)).1
      subst hspot
      rw [Go.WideShapes.add_plain, h1] at h0
      exact ⟨b, off, (f i).1.1, (f i).1.2, rfl, World.block_lt_of_cell? w _ h0, h0, h2⟩
    · have h1 : (f i).2.1 + sumTo (fun j => ((f i).2.2 j).length) (f i).2.1 ≤ sumTo (fun i => (f i).2.1 + sumTo (fun j => ((f i).2.2 j).length) (f i).2.1) len := sumTo_at (fun i => (f i).2.1 + sumTo (fun j => ((f i).2.2 j).length) (f i).2.1) hil
      refine ⟨by omega, fun j hj => ?_⟩
      have h2 : ((f i).2.2 j).length ≤ sumTo (fun j => ((f i).2.2 j).length) (f i).2.1 := sumTo_at (fun j => ((f i).2.2 j).length) hj
      omega
end Go.Proofs.Ytdpeckfdilpidaa
