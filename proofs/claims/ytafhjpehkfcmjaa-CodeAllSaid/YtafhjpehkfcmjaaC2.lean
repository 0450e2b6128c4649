/- Families of rows: the three states. No walk here. -/
import Derived.Test.YtafhjpehkfcmjaaC1
set_option linter.unusedVariables false
set_option linter.unusedSimpArgs false
namespace Go.Proofs.Ytafhjpehkfcmjaa
open Go.ChangeShapes Go.WideShapes Go.RowKit
def updV {α : Type} (f : Nat → α) (k : Nat) (x : α) (a : Nat) : α := if a = k then x else f a
theorem updV_same {α : Type} (f : Nat → α) (k : Nat) (x : α) : updV f k x k = x := if_pos rfl
theorem updV_off {α : Type} (f : Nat → α) {k a : Nat} (x : α) (h : a ≠ k) : updV f k x a = f a := if_neg h
def cellsOf (f : Nat → Value) (k : Nat) : List Value := (List.range k).map f
theorem cellsOf_length (f : Nat → Value) (k : Nat) : (cellsOf f k).length = k := by simp [cellsOf]
theorem cellsOf_get (f : Nat → Value) {k j : Nat} (h : j < k) : (cellsOf f k)[j]? = some (f j) := by simp [cellsOf, h]
/-- No two of the rows share a block. -/
def NS_ (N : Nat) (V : Nat → Value) : Prop := ∀ k k', k < N → k' < N → k ≠ k' → ∀ b, (V k).ownBlock = some b → (V k').ownBlock ≠ some b
/-! ### while they are marked -/
structure F1 (w : World) (H : Nat) (e : TypeId) (size N : Nat) (V : Nat → Value) (n : Nat → Nat) (X : Nat → List Value) : Prop where
  rows : ∀ k, k < N → w.ownsRow H e size (V k) (n k) (X k)
  ns : NS_ N V
section
variable {w w' : World} {H : Nat} {e : TypeId} {size N : Nat} {V : Nat → Value} {n : Nat → Nat} {X : Nat → List Value}
theorem F1.keep (h : F1 w H e size N V n X) (o : Only (fun b => ¬ TB w b e) w w') : F1 w' H e size N V n X := ⟨fun k hk => own_keep (h.rows k hk) o, h.ns⟩
theorem F1.cell (h : F1 w H e size N V n X) {k b c : Nat} (hk : k < N) (hV : V k = .slice (some ⟨b, 0, none⟩) (n k) c) {j : Nat} (hj : j < n k * size) : w.cell? ⟨b, j, none⟩ = (X k)[j]? := own_cells (h.rows k hk) (by rw [hV]; rfl) j hj
theorem F1.frozen (h : F1 w H e size N V n X) {k b c : Nat} (hk : k < N) (hV : V k = .slice (some ⟨b, 0, none⟩) (n k) c) (j : Nat) : w.frozen? ⟨b, j, none⟩ = false := by
  have := h.rows k hk
  rw [hV] at this
  exact World.ownsRow.frozenAt this j
theorem F1.set_ (h : F1 w H e size N V n X) {k b c : Nat} (hk : k < N) (hV : V k = .slice (some ⟨b, 0, none⟩) (n k) c) (j : Nat) (u : Value) : F1 (w.setCell ⟨b, j, none⟩ u) H e size N V n (updV X k ((X k).set j u)) := by
  refine ⟨fun k' hk' => ?_, h.ns⟩
  have hb : (V k).ownBlock = some b := by rw [hV]; rfl
  by_cases he : k' = k
  · subst he
    rw [updV_same]
    have := h.rows k' hk'
    rw [hV] at this ⊢
    exact (World.ownsRow.stored this j u).1
  · rw [updV_off _ _ he]
    exact own_only (F := fun x => x = b) (h.rows k' hk') ((Only.refl (fun x => x = b) w).setCell (.inl rfl) u) (fun x hx ex => by subst ex; exact h.ns k k' hk hk' (Ne.symm he) _ hb hx)
theorem F1.tb (h : F1 w H e size N V n X) {k b : Nat} (hk : k < N) (hV : (V k).ownBlock = some b) : TB w b e ∧ H ≤ b := ⟨own_tb (h.rows k hk) hV, (World.ownsRow.lt (h.rows k hk) b hV).1⟩
end
/-! ### while they are grown -/
section
variable (w : World) (H : Nat) (e : TypeId) (size N : Nat) (V : Nat → Value) (n : Nat → Nat) (val : Nat → Nat → Value)
structure FA (i : Nat) (GV : Nat → Value) (B : Nat → Nat) : Prop where
  kept : ∀ k, k < N → ∀ b, (V k).ownBlock = some b → TB w b e ∧ H ≤ b ∧ ∀ j, j < n k * size → w.cell? ⟨b, j, none⟩ = some (val k j)
  own : ∀ k, i ≤ k → k < N → w.ownsRow H e size (V k) (n k) (cellsOf (val k) (n k * size))
  st : ∀ k, k < i → ∃ c, GV k = .slice (some ⟨B k, 0, none⟩) (n k + 60) c
  stc : ∀ k, k < i → TB w (B k) e ∧ ∀ j, j < (n k + 60) * size → w.cell? ⟨B k, j, none⟩ = some (val k j)
  far : ∀ k k', k < i → i ≤ k' → k' < N → (V k').ownBlock ≠ some (B k)
  ns : NS_ N V
structure FG (i : Nat) (GV : Nat → Value) (B : Nat → Nat) (g : Value) (t : Nat) : Prop where
  kept : ∀ k, k < N → ∀ b, (V k).ownBlock = some b → TB w b e ∧ H ≤ b ∧ ∀ j, j < n k * size → w.cell? ⟨b, j, none⟩ = some (val k j)
  own : ∀ k, i < k → k < N → w.ownsRow H e size (V k) (n k) (cellsOf (val k) (n k * size))
  st : ∀ k, k < i → ∃ c, GV k = .slice (some ⟨B k, 0, none⟩) (n k + 60) c
  stc : ∀ k, k < i → TB w (B k) e ∧ ∀ j, j < (n k + 60) * size → w.cell? ⟨B k, j, none⟩ = some (val k j)
  far : ∀ k k', k < i → i < k' → k' < N → (V k').ownBlock ≠ some (B k)
  ns : NS_ N V
  gown : w.ownsRow H e size g (n i + t) (cellsOf (val i) ((n i + t) * size))
  gat : ∀ b, g.ownBlock = some b → (V i).ownBlock = some b ∨ ∀ k', k' < N → (V k').ownBlock ≠ some b
  gfar : ∀ k, k < i → g.ownBlock ≠ some (B k)
  iN : i < N
end
section
variable {w w' : World} {H : Nat} {e : TypeId} {size N : Nat} {V : Nat → Value} {n : Nat → Nat} {val : Nat → Nat → Value} {i : Nat} {GV : Nat → Value} {B : Nat → Nat} {g : Value} {t : Nat}
theorem FA.start {X : Nat → List Value} (h : F1 w H e size N V n X) (hX : ∀ k, k < N → X k = cellsOf (val k) (n k * size)) (GV : Nat → Value) (B : Nat → Nat) : FA w H e size N V n val 0 GV B :=
  ⟨fun k hk b hb => ⟨(h.tb hk hb).1, (h.tb hk hb).2, fun j hj => by rw [own_cells (h.rows k hk) hb j hj, hX k hk, cellsOf_get _ hj]⟩, fun k _ hk => by rw [← hX k hk]; exact h.rows k hk, fun k hk => absurd hk (Nat.not_lt_zero _), fun k hk => absurd hk (Nat.not_lt_zero _), fun k _ hk => absurd hk (Nat.not_lt_zero _), h.ns⟩
theorem FA.keep (h : FA w H e size N V n val i GV B) (o : Only (fun b => ¬ TB w b e) w w') : FA w' H e size N V n val i GV B :=
  ⟨fun k hk b hb => let ⟨h1, h2, h3⟩ := h.kept k hk b hb; ⟨h1.only o (fun x => x h1), h2, fun j hj => (o.cell h1.lt (fun x => x h1)).trans (h3 j hj)⟩, fun k hi hk => own_keep (h.own k hi hk) o, h.st, fun k hk => let ⟨h1, h3⟩ := h.stc k hk; ⟨h1.only o (fun x => x h1), fun j hj => (o.cell h1.lt (fun x => x h1)).trans (h3 j hj)⟩, h.far, h.ns⟩
theorem FG.keep (h : FG w H e size N V n val i GV B g t) (o : Only (fun b => ¬ TB w b e) w w') : FG w' H e size N V n val i GV B g t :=
  ⟨fun k hk b hb => let ⟨h1, h2, h3⟩ := h.kept k hk b hb; ⟨h1.only o (fun x => x h1), h2, fun j hj => (o.cell h1.lt (fun x => x h1)).trans (h3 j hj)⟩, fun k hi hk => own_keep (h.own k hi hk) o, h.st, fun k hk => let ⟨h1, h3⟩ := h.stc k hk; ⟨h1.only o (fun x => x h1), fun j hj => (o.cell h1.lt (fun x => x h1)).trans (h3 j hj)⟩, h.far, h.ns, own_keep h.gown o, h.gat, h.gfar, h.iN⟩
theorem FA.begin (h : FA w H e size N V n val i GV B) (hi : i < N) : FG w H e size N V n val i GV B (V i) 0 :=
  ⟨h.kept, fun k hk => h.own k (by omega), h.st, h.stc, fun k k' hk hk' => h.far k k' hk (by omega), h.ns, h.own i (Nat.le_refl _) hi, fun b hb => .inl hb, fun k hk => h.far k i hk (Nat.le_refl _) hi, hi⟩
theorem FG.app (h : FG w H e size N V n val i GV B g t) {gg cap : Nat} {xs : List Value} (hx : cellsOf (val i) ((n i + t) * size) ++ xs = cellsOf (val i) ((n i + (t + 1)) * size))
    (hown : w'.ownsRow H e size (.slice (some ⟨gg, 0, none⟩) (n i + t + 1) cap) (n i + t + 1) (cellsOf (val i) ((n i + t) * size) ++ xs)) (o : Only (fun b => b = gg) w w') (hat : g.ownBlock = some gg ∨ w.heap.size ≤ gg) :
    FG w' H e size N V n val i GV B (.slice (some ⟨gg, 0, none⟩) (n i + t + 1) cap) (t + 1) := by
  rw [hx] at hown
  have hgg : (Value.slice (some ⟨gg, 0, none⟩) (n i + t + 1) cap).ownBlock = some gg := rfl
  have htb := own_tb hown hgg
  have notK : ∀ k, k < N → k ≠ i → (V k).ownBlock ≠ some gg := fun k hk hne e => by
    have hl := (h.kept k hk gg e).1.lt
    rcases hat with e1 | e1
    · rcases h.gat gg e1 with e2 | e2
      · exact h.ns k i hk h.iN hne gg e e2
      · exact e2 k hk e
    · omega
  have notB : ∀ k, k < i → B k ≠ gg := fun k hk e => by
    have hl := (h.stc k hk).1.lt
    rcases hat with e1 | e1
    · exact h.gfar k hk (by rw [e1, e])
    · omega
  refine ⟨fun k hk b hb => ?_, fun k hi hk => own_only (h.own k hi hk) o (fun b hb e => by subst e; exact notK k hk (by omega) hb), h.st, fun k hk => ?_, h.far, h.ns, hown, fun b hb => ?_, fun k hk e => ?_, h.iN⟩
  · obtain ⟨h1, h2, h3⟩ := h.kept k hk b hb
    by_cases hbg : b = gg
    · subst hbg
      have hki : k = i := by
        by_cases e : k = i
        · exact e
        · exact absurd hb (notK k hk e)
      subst hki
      refine ⟨htb, h2, fun j hj => ?_⟩
      have hle : n k * size ≤ (n k + t + 1) * size := Nat.mul_le_mul_right _ (by omega)
      rw [own_cells hown hgg j (by omega)]
      exact cellsOf_get _ (by rw [show n k + (t + 1) = n k + t + 1 by omega]; omega)
    · exact ⟨h1.only o hbg, h2, fun j hj => (o.cell h1.lt hbg).trans (h3 j hj)⟩
  · obtain ⟨h1, h3⟩ := h.stc k hk
    exact ⟨h1.only o (notB k hk), fun j hj => (o.cell h1.lt (notB k hk)).trans (h3 j hj)⟩
  · rw [hgg] at hb
    injection hb with hb
    subst hb
    rcases hat with e1 | e1
    · exact h.gat _ e1
    · refine .inr fun k' hk' e => ?_
      have := (h.kept k' hk' _ e).1.lt
      omega
  · rw [hgg] at e
    injection e with e
    exact notB k hk e.symm
theorem FG.done {b c : Nat} (h : FG w H e size N V n val i GV B (.slice (some ⟨b, 0, none⟩) (n i + 60) c) 60) : FA w H e size N V n val (i + 1) (updV GV i (.slice (some ⟨b, 0, none⟩) (n i + 60) c)) (updV B i b) := by
  have hb : (Value.slice (some ⟨b, 0, none⟩) (n i + 60) c).ownBlock = some b := rfl
  refine ⟨h.kept, fun k hk => h.own k (by omega), fun k hk => ?_, fun k hk => ?_, fun k k' hk hk' hkN => ?_, h.ns⟩
  · by_cases e : k = i
    · subst e; rw [updV_same, updV_same]; exact ⟨c, rfl⟩
    · rw [updV_off _ _ e, updV_off _ _ e]; exact h.st k (by omega)
  · by_cases e : k = i
    · subst e
      rw [updV_same]
      exact ⟨own_tb h.gown hb, fun j hj => by rw [own_cells h.gown hb j hj]; exact cellsOf_get _ hj⟩
    · rw [updV_off _ _ e]; exact h.stc k (by omega)
  · by_cases e : k = i
    · subst e
      rw [updV_same]
      rcases h.gat b hb with e2 | e2
      · exact fun e3 => h.ns k k' h.iN hkN (by omega) b e2 e3
      · exact e2 k' hkN
    · rw [updV_off _ _ e]; exact h.far k k' (by omega) (by omega) hkN
end
end Go.Proofs.Ytafhjpehkfcmjaa
