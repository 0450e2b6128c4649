/- Lists of lists of the call's own: a head stored; all of them read. No program here. -/
import Derived.Test.YtdpeckfdilpidaaRead
set_option linter.unusedVariables false
set_option linter.unusedSimpArgs false
namespace Go.Proofs.Ytdpeckfdilpidaa
open Go.RowKit
theorem heads_set (N : Nat) (V : Nat → Value) (k : Nat) (u : Value) : (heads N V).set k u = heads N (updf V k u) := by
  apply List.ext_getElem?
  intro i
  rw [List.getElem?_set]
  have hl : (heads N V).length = N := by simp [heads]
  by_cases hi : i < N
  · rw [heads_get N (updf V k u) hi]
    by_cases he : k = i
    · subst he; rw [if_pos rfl, if_pos (by rw [hl]; exact hi), updf_same]
    · rw [if_neg he, heads_get N V hi, updf_other _ _ _ (Ne.symm he)]
  · have h1 : ∀ V' : Nat → Value, (heads N V')[i]? = none := fun V' => by simp [heads]; omega
    rw [h1, h1]
    split
    · rw [if_neg (by rw [hl]; omega)]
    · rfl
section
variable {w w' : World} {F G : Nat → Prop} {t : TypeId} {v u : Value} {N : Nat} {V : Nat → Value} {X : Nat → List Int} {l : List Int}
/-- A head stored: the k-th list is another one. -/
theorem LL.put (ht : t ≠ 3) {vb cap k : Nat} (h : LL w F t (.slice (some ⟨vb, 0, none⟩) N cap) N V X) (hu : Row w G 3 1 u l.length (nums l)) (hG : ∀ b, G b → ¬ F b) :
    LL (w.setCell ⟨vb, k, none⟩ u) (fun b => F b ∨ G b) t (.slice (some ⟨vb, 0, none⟩) N cap) N (updf V k u) (updf X k l) := by
  have hvb : (Value.slice (some ⟨vb, 0, none⟩) N cap).ownBlock = some vb := rfl
  have far {v' : Value} {n' : Nat} {xs' : List Value} {F' : Nat → Prop} (hr : Row w F' 3 1 v' n' xs') : v'.ownBlock ≠ some vb := by
    rcases hr.ne_type h.row (Ne.symm ht) with e | e
    · rw [e]; simp
    · rw [hvb] at e; exact e
  refine ⟨?_, fun j hj => ?_, fun j j' hj hj' hne b hb => ?_⟩
  · rw [← heads_set]
    exact (h.row.stored k u).mono fun b _ hb => .inl hb
  · by_cases he : j = k
    · subst he
      rw [updf_same, updf_same]
      exact (hu.far (p := ⟨vb, j, none⟩) (far hu) u).mono fun b _ hb => .inr hb
    · rw [updf_other _ _ _ he, updf_other _ _ _ he]
      exact ((h.rows j hj).far (p := ⟨vb, k, none⟩) (far (h.rows j hj)) u).mono fun b _ hb => .inl hb
  · by_cases he : j = k
    · subst he
      rw [updf_same] at hb
      rw [updf_other _ _ _ (Ne.symm hne)]
      exact fun h2 => hG b (hu.2 b hb) ((h.rows j' hj').2 b h2)
    · rw [updf_other _ _ _ he] at hb
      by_cases he' : j' = k
      · subst he'
        rw [updf_same]
        exact fun h2 => hG b (hu.2 b h2) ((h.rows j hj).2 b hb)
      · rw [updf_other _ _ _ he']
        exact h.ns j j' hj hj' hne b hb
/-- Lists of the call's own can be read. -/
theorem LL.reads {A : Option Addr} {cap : Nat} (h : LL w F t (.slice A N cap) N V X) (hN : N ≤ 9223372036854775807) (hX : ∀ k, k < N → (X k).length ≤ 9223372036854775807 ∧ ∀ i, i < (X k).length → i64in ((X k).getD i 0)) : RLL w F A N X := by
  refine ⟨hN, fun k hk => ?_⟩
  obtain ⟨vb, cap', hv, hF, hlt, _⟩ := h.row.form (by omega)
  injection hv with hA _ hc
  subst hA hc
  obtain ⟨Ak, ck, hV, hR⟩ := (h.rows k hk).reads (hX k hk).2 (hX k hk).1
  refine ⟨vb, 0, Ak, ck, rfl, hF, hlt, ?_, hR⟩
  rw [Nat.zero_add, ← hV]
  exact h.head_cell hk
end
end Go.Proofs.Ytdpeckfdilpidaa
