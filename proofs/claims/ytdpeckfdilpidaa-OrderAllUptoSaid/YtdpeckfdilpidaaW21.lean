/- OrderAll: how its lists stand. -/
import Derived.Test.YtdpeckfdilpidaaW20
set_option linter.unusedVariables false
set_option linter.unusedSimpArgs false
namespace Go.Proofs.Ytdpeckfdilpidaa
open Go.RowKit
theorem heads_push2 (N : Nat) (V : Nat → Value) (u1 u2 : Value) : heads N V ++ [u1, u2] = heads (N + 2) (updf (updf V N u1) (N + 1) u2) := by
  have e : heads N V ++ [u1, u2] = (heads N V ++ [u1]) ++ [u2] := by simp
  rw [e, heads_push, heads_push]
section
variable {w w1 : World} {F G1 G2 : Nat → Prop} {t : TypeId} {v : Value} {N : Nat} {V : Nat → Value} {X : Nat → List Int}
/-- Two lists more. -/
theorem LL.pushed2 (ht : t ≠ 3) (h : LL w F t v N V X) {u1 u2 v1 : Value} {l1 l2 : List Int} (h1 : Row w G1 3 1 u1 l1.length (nums l1)) (h2 : Row w G2 3 1 u2 l2.length (nums l2)) (d1 : ∀ b, G1 b → ¬ F b) (d2 : ∀ b, G2 b → ¬ F b) (d3 : ∀ b, G1 b → ¬ G2 b)
    (hown : w1.ownsRow 0 t 1 v1 (N + 2) (heads N V ++ [u1, u2])) (hg : w.grownBy w1 v.ownBlock) :
    LL w1 (fun b => F b ∨ G1 b ∨ G2 b ∨ v1.ownBlock = some b) t v1 (N + 2) (updf (updf V N u1) (N + 1) u2) (updf (updf X N l1) (N + 1) l2) := by
  have at0 {α : Type} (f : Nat → α) (a b : α) (k : Nat) (hk : k < N) : updf (updf f N a) (N + 1) b k = f k := by rw [updf_other _ _ _ (by omega), updf_other _ _ _ (by omega)]
  have at1 {α : Type} (f : Nat → α) (a b : α) : updf (updf f N a) (N + 1) b N = a := by rw [updf_other _ _ _ (by omega), updf_same]
  have at2 {α : Type} (f : Nat → α) (a b : α) : updf (updf f N a) (N + 1) b (N + 1) = b := updf_same _ _ _
  have fp (k : Nat) (hk : k < N + 2) (b : Nat) (hb : (updf (updf V N u1) (N + 1) u2 k).ownBlock = some b) : (k < N ∧ F b ∧ (V k).ownBlock = some b) ∨ (k = N ∧ G1 b) ∨ (k = N + 1 ∧ G2 b) := by
    rcases (show k < N ∨ k = N ∨ k = N + 1 by omega) with e | e | e
    · rw [at0 _ _ _ _ e] at hb; exact .inl ⟨e, (h.rows k e).2 b hb, hb⟩
    · subst e; rw [at1] at hb; exact .inr (.inl ⟨rfl, h1.2 b hb⟩)
    · subst e; rw [at2] at hb; exact .inr (.inr ⟨rfl, h2.2 b hb⟩)
  refine ⟨⟨by rw [← heads_push2]; exact hown, fun b hb => .inr (.inr (.inr hb))⟩, fun k hk => ?_, fun k k' hk hk' hne b hb hb' => ?_⟩
  · rcases (show k < N ∨ k = N ∨ k = N + 1 by omega) with e | e | e
    · rw [at0 _ _ _ _ e, at0 _ _ _ _ e]
      exact ((h.rows k e).grown hg ((h.rows k e).ne_type h.row (Ne.symm ht))).mono fun b _ hb => .inl hb
    · subst e
      rw [at1, at1]
      exact (h1.grown hg (h1.ne_type h.row (Ne.symm ht))).mono fun b _ hb => .inr (.inl hb)
    · subst e
      rw [at2, at2]
      exact (h2.grown hg (h2.ne_type h.row (Ne.symm ht))).mono fun b _ hb => .inr (.inr (.inl hb))
  · rcases fp k hk b hb with ⟨e1, e2, e3⟩ | ⟨e1, e2⟩ | ⟨e1, e2⟩ <;> rcases fp k' hk' b hb' with ⟨f1, f2, f3⟩ | ⟨f1, f2⟩ | ⟨f1, f2⟩
    · exact h.ns k k' e1 f1 hne b e3 f3
    · exact d1 b f2 e2
    · exact d2 b f2 e2
    · exact d1 b e2 f2
    · omega
    · exact d3 b e2 f2
    · exact d2 b e2 f2
    · exact d3 b f2 e2
    · omega
end
/-- The answers that are kept, and their twins. -/
structure AL (w wr : World) (kv tv : Value) (N : Nat) (FK FT : Nat → Prop) (VK VT : Nat → Value) (Lk : Nat → List Int) : Prop where
  kept : LL wr FK 27 kv N VK Lk
  twins : LL wr FT 27 tv N VT Lk
  dj : ∀ b, FK b → ¬ FT b
  ft : ∀ b, FK b ∨ FT b → w.heap.size ≤ b ∧ b < wr.heap.size
  len : ∀ k, k < N → (Lk k).length ≤ 300 ∧ ∀ t, t < (Lk k).length → i64in ((Lk k).getD t 0)
  below : Below w.heap.size w wr
section
variable {w wr w1 w2 : World} {kv tv v1 u1 u2 : Value} {N : Nat} {FK FT G1 G2 : Nat → Prop} {VK VT : Nat → Value} {Lk : Nat → List Int} {l1 l2 : List Int} {obj : Obj} {B : Nat}
theorem AL.start (w : World) (V : Nat → Value) (X : Nat → List Int) : AL w w (.slice none 0 0) (.slice none 0 0) 0 (fun _ => False) (fun _ => False) V V X :=
  ⟨LL.empty _ _ _ _ _, LL.empty _ _ _ _ _, fun _ h => h.elim, fun b h => by rcases h with h | h <;> exact h.elim, fun k hk => absurd hk (Nat.not_lt_zero _), Below.refl _ _⟩
theorem AL.later (h : AL w wr kv tv N FK FT VK VT Lk) (hb : Below wr.heap.size wr w1) : AL w w1 kv tv N FK FT VK VT Lk :=
  ⟨h.kept.only (Only.ofBelow (F := fun _ => False) hb) (fun _ _ _ h => h), h.twins.only (Only.ofBelow (F := fun _ => False) hb) (fun _ _ _ h => h), h.dj, fun b hf => ⟨(h.ft b hf).1, Nat.lt_of_lt_of_le (h.ft b hf).2 hb.size⟩, h.len, h.below.trans (hb.mono h.below.size)⟩
/-- Two answers are kept; what they are stands from block B on. -/
theorem AL.pushK (h : AL w wr kv tv N FK FT VK VT Lk) (hb : Below wr.heap.size wr w1) (h1 : Row w1 G1 3 1 u1 l1.length (nums l1)) (h2 : Row w1 G2 3 1 u2 l2.length (nums l2)) (g1 : ∀ b, G1 b → wr.heap.size ≤ b) (g2 : ∀ b, G2 b → wr.heap.size ≤ b) (d3 : ∀ b, G1 b → ¬ G2 b)
    (hown : w2.ownsRow 0 27 1 v1 (N + 2) (heads N VK ++ [u1, u2])) (hg : (w1.alloc obj).grownBy w2 kv.ownBlock) (hat : v1.ownBlock = kv.ownBlock ∨ ∃ j, v1.ownBlock = some j ∧ w1.heap.size ≤ j) :
    ∃ FK' VK', LL w2 FK' 27 v1 (N + 2) VK' (updf (updf Lk N l1) (N + 1) l2) ∧ LL w2 FT 27 tv N VT Lk ∧ (∀ b, FK' b → ¬ FT b) ∧ (∀ b, FK' b ∨ FT b → w.heap.size ≤ b ∧ b < w2.heap.size) ∧ Below w.heap.size w w2 ∧ (∀ b, FK' b → b < wr.heap.size ∨ G1 b ∨ G2 b ∨ w1.heap.size ≤ b) ∧ Only (fun b => FK b) w1 w2 := by
  have k := h.later hb
  have o : Only (fun j => kv.ownBlock = some j) w1 w2 := ((Only.refl _ w1).alloc obj).grown hg fun j hk => .inl hk
  have s1 := o.size
  have s0 := hb.size
  have sw := h.below.size
  have kal := k.kept.only ((Only.refl (fun _ => False) w1).alloc obj) (fun _ _ _ h => h)
  have dF : ∀ b, FK b → b < wr.heap.size := fun b hb => (h.ft b (.inl hb)).2
  have hp := kal.pushed2 (by decide) ((h1.mono (G := fun b => G1 b ∧ b < w1.heap.size) fun b hb hg => ⟨hg, hb⟩).alloc obj) ((h2.mono (G := fun b => G2 b ∧ b < w1.heap.size) fun b hb hg => ⟨hg, hb⟩).alloc obj) (fun b e hF => by have := g1 b e.1; have := dF b hF; omega) (fun b e hF => by have := g2 b e.1; have := dF b hF; omega) (fun b e e2 => d3 b e.1 e2.1) hown hg
  have hv1 (b : Nat) (e : v1.ownBlock = some b) : FK b ∨ w1.heap.size ≤ b := by
    rcases hat with e2 | ⟨j, e2, e3⟩
    · exact .inl (h.kept.row.2 b (by rw [← e2]; exact e))
    · rw [e] at e2; injection e2 with e2; right; omega
  refine ⟨_, _, hp, k.twins.only o (fun b _ hT e => h.dj b (h.kept.row.2 b e) hT), fun b hf hT => ?_, fun b hf => ?_, k.below.trans (o.toBelow (by omega) fun j hj e => ?_), fun b hf => ?_, o.mono fun b _ e => h.kept.row.2 b e⟩
  · have := (h.ft b (.inr hT)).2
    rcases hf with e | e | e | e
    · exact h.dj b e hT
    · have := g1 b e.1; omega
    · have := g2 b e.1; omega
    · rcases hv1 b e with e | e
      · exact h.dj b e hT
      · omega
  · rcases hf with (e | e | e | e) | e
    · have := h.ft b (.inl e); omega
    · have := g1 b e.1; omega
    · have := g2 b e.1; omega
    · have hlt := (hown.lt b e).2
      rcases hv1 b e with e | e
      · have := h.ft b (.inl e); omega
      · omega
    · have := h.ft b (.inr e); omega
  · have := (h.ft j (.inl (h.kept.row.2 j e))).1; omega
  · rcases hf with e | e | e | e
    · exact .inl (dF b e)
    · exact .inr (.inl e.1)
    · exact .inr (.inr (.inl e.1))
    · rcases hv1 b e with e | e
      · exact .inl (dF b e)
      · exact .inr (.inr (.inr e))
/-- Their twins too. -/
theorem AL.pushT {wk wt wt2 : World} {FK' : Nat → Prop} {VK' : Nat → Value} {tv' : Value} (hK : LL wk FK' 27 kv (N + 2) VK' (updf (updf Lk N l1) (N + 1) l2)) (hT : LL wk FT 27 tv N VT Lk) (hdj : ∀ b, FK' b → ¬ FT b) (hft : ∀ b, FK' b ∨ FT b → w.heap.size ≤ b ∧ b < wk.heap.size) (hbw : Below w.heap.size w wk)
    (hlen : ∀ k, k < N → (Lk k).length ≤ 300 ∧ ∀ t, t < (Lk k).length → i64in ((Lk k).getD t 0)) (hl1 : l1.length ≤ 300 ∧ ∀ t, t < l1.length → i64in (l1.getD t 0)) (hl2 : l2.length ≤ 300 ∧ ∀ t, t < l2.length → i64in (l2.getD t 0))
    (hb : Below wk.heap.size wk wt) (h1 : Row wt G1 3 1 u1 l1.length (nums l1)) (h2 : Row wt G2 3 1 u2 l2.length (nums l2)) (g1 : ∀ b, G1 b → wk.heap.size ≤ b) (g2 : ∀ b, G2 b → wk.heap.size ≤ b) (d3 : ∀ b, G1 b → ¬ G2 b)
    (hown : wt2.ownsRow 0 27 1 tv' (N + 2) (heads N VT ++ [u1, u2])) (hg : (wt.alloc obj).grownBy wt2 tv.ownBlock) (hat : tv'.ownBlock = tv.ownBlock ∨ ∃ j, tv'.ownBlock = some j ∧ wt.heap.size ≤ j) :
    ∃ FT' VT', AL w wt2 kv tv' (N + 2) FK' FT' VK' VT' (updf (updf Lk N l1) (N + 1) l2) := by
  have o : Only (fun j => tv.ownBlock = some j) wt wt2 := ((Only.refl _ wt).alloc obj).grown hg fun j hk => .inl hk
  have s1 := o.size
  have s0 := hb.size
  have sw := hbw.size
  have hK2 := hK.only (Only.ofBelow (F := fun _ => False) hb) (fun _ _ _ h => h)
  have hT2 := hT.only (Only.ofBelow (F := fun _ => False) hb) (fun _ _ _ h => h)
  have tal := hT2.only ((Only.refl (fun _ => False) wt).alloc obj) (fun _ _ _ h => h)
  have dF : ∀ b, FT b → b < wk.heap.size := fun b hb => (hft b (.inr hb)).2
  have hp := tal.pushed2 (by decide) ((h1.mono (G := fun b => G1 b ∧ b < wt.heap.size) fun b hb hg => ⟨hg, hb⟩).alloc obj) ((h2.mono (G := fun b => G2 b ∧ b < wt.heap.size) fun b hb hg => ⟨hg, hb⟩).alloc obj) (fun b e hF => by have := g1 b e.1; have := dF b hF; omega) (fun b e hF => by have := g2 b e.1; have := dF b hF; omega) (fun b e e2 => d3 b e.1 e2.1) hown hg
  have hv1 (b : Nat) (e : tv'.ownBlock = some b) : FT b ∨ wt.heap.size ≤ b := by
    rcases hat with e2 | ⟨j, e2, e3⟩
    · exact .inl (hT.row.2 b (by rw [← e2]; exact e))
    · rw [e] at e2; injection e2 with e2; right; omega
  refine ⟨_, _, hK2.only o (fun b _ hF e => hdj b hF (hT.row.2 b e)), hp, fun b hF hf => ?_, fun b hf => ?_, fun k hk => ?_, (hbw.trans (hb.mono sw)).trans (o.toBelow (by omega) fun j hj e => ?_)⟩
  · have := (hft b (.inl hF)).2
    rcases hf with e | e | e | e
    · exact hdj b hF e
    · have := g1 b e.1; omega
    · have := g2 b e.1; omega
    · rcases hv1 b e with e | e
      · exact hdj b hF e
      · omega
  · rcases hf with e | (e | e | e | e)
    · have := hft b (.inl e); omega
    · have := hft b (.inr e); omega
    · have := g1 b e.1; omega
    · have := g2 b e.1; omega
    · have hlt := (hown.lt b e).2
      rcases hv1 b e with e | e
      · have := hft b (.inr e); omega
      · omega
  · rcases (show k < N ∨ k = N ∨ k = N + 1 by omega) with e | e | e
    · rw [updf_other _ _ _ (by omega), updf_other _ _ _ (by omega)]; exact hlen k e
    · subst e; rw [updf_other _ _ _ (by omega), updf_same]; exact hl1
    · subst e; rw [updf_same]; exact hl2
  · have := (hft j (.inr (hT.row.2 j e))).1; omega
end
end Go.Proofs.Ytdpeckfdilpidaa
