/- Blocks put in a line: the walk over them as a plain thing: what is seen, the open ones, the ones that are done. No program here. -/
import Derived.Test.YtdpeckfdilpidaaRead
set_option linter.unusedVariables false
set_option linter.unusedSimpArgs false
namespace Go.Proofs.Ytdpeckfdilpidaa
/-- A state: what is seen; the open blocks, the last one on top, each with how many ways are still to be gone over; the blocks that are done, in their order. -/
structure DS where
  seen : Nat → Bool
  op : List (Nat × Nat)
  done : List Nat
def DS.visit (X : Nat → List Int) (s : DS) (b : Nat) : DS := if s.seen b = true then s else ⟨fun k => if k = b then true else s.seen k, s.op ++ [(b, (X b).length)], s.done⟩
def DS.start (X : Nat → List Int) : DS := DS.visit X ⟨fun _ => false, [], []⟩ 0
/-- The top's last way is gone over, or the top is done. -/
inductive Step (X : Nat → List Int) : DS → DS → Prop
  | pop (seen : Nat → Bool) (op : List (Nat × Nat)) (b : Nat) (done : List Nat) : Step X ⟨seen, op ++ [(b, 0)], done⟩ ⟨seen, op, done ++ [b]⟩
  | way (seen : Nat → Bool) (op : List (Nat × Nat)) (b l : Nat) (done : List Nat) : Step X ⟨seen, op ++ [(b, l + 1)], done⟩ (DS.visit X ⟨seen, op ++ [(b, l)], done⟩ ((X b).getD l 0).toNat)
inductive Reach (X : Nat → List Int) : DS → Prop
  | start : Reach X (DS.start X)
  | step {s t : DS} : Reach X s → Step X s t → Reach X t
def tot (f : Nat → Nat) : Nat → Nat
  | 0 => 0
  | n + 1 => tot f n + f n
theorem tot_upd (f g : Nat → Nat) (b : Nat) (hg : ∀ k, k ≠ b → g k = f k) : ∀ n, (b < n → tot g n + f b = tot f n + g b) ∧ (n ≤ b → tot g n = tot f n)
  | 0 => ⟨fun h => absurd h (Nat.not_lt_zero _), fun _ => rfl⟩
  | n + 1 => by
    obtain ⟨h1, h2⟩ := tot_upd f g b hg n
    refine ⟨fun h => ?_, fun h => ?_⟩
    · simp only [tot]
      by_cases hb : b = n
      · subst hb; have := h2 (Nat.le_refl _); omega
      · have := h1 (by omega); rw [hg n (fun e => hb e.symm)]; omega
    · simp only [tot]
      rw [h2 (by omega), hg n (by omega)]
/-- How much is still to come. -/
def DS.left (X : Nat → List Int) (n : Nat) (s : DS) : Nat := tot (fun k => if s.seen k = true then 0 else (X k).length + 2) n + (s.op.map fun p => p.2 + 1).sum
def Right (n : Nat) (X : Nat → List Int) : Prop := ∀ k, k < n → ∀ i, i < (X k).length → 0 ≤ (X k).getD i 0 ∧ (X k).getD i 0 < n
structure Inv (n : Nat) (X : Nat → List Int) (s : DS) : Prop where
  op : ∀ p, p ∈ s.op → p.1 < n ∧ p.2 ≤ (X p.1).length
  done : ∀ b, b ∈ s.done → b < n
  seen : ∀ b, s.seen b = true ↔ b ∈ s.op.map (·.1) ∨ b ∈ s.done
  nd : (s.op.map (·.1) ++ s.done).Nodup
theorem DS.visit_no {X : Nat → List Int} {s : DS} {b : Nat} (h : s.seen b = true) : s.visit X b = s := by rw [DS.visit, if_pos h]
theorem DS.visit_yes {X : Nat → List Int} {s : DS} {b : Nat} (h : s.seen b = false) : s.visit X b = ⟨fun k => if k = b then true else s.seen k, s.op ++ [(b, (X b).length)], s.done⟩ := by rw [DS.visit, if_neg (by rw [h]; decide)]
theorem Inv.visit {n : Nat} {X : Nat → List Int} {s : DS} (h : Inv n X s) {b : Nat} (hb : b < n) : Inv n X (s.visit X b) := by
  cases hs : s.seen b with
  | true => rw [DS.visit_no hs]; exact h
  | false =>
    rw [DS.visit_yes hs]
    have hnot : ¬ (b ∈ s.op.map (·.1) ∨ b ∈ s.done) := by rw [← h.seen b, hs]; decide
    refine ⟨fun p hp => ?_, h.done, fun k => ?_, ?_⟩
    · rcases List.mem_append.1 hp with hp | hp
      · exact h.op p hp
      · rw [List.mem_singleton] at hp; subst hp; exact ⟨hb, Nat.le_refl _⟩
    · show (if k = b then true else s.seen k) = true ↔ _
      by_cases hk : k = b
      · subst hk; simp
      · rw [if_neg hk, h.seen k]; simp [hk]
    · show (((s.op ++ [(b, (X b).length)]).map (·.1)) ++ s.done).Nodup
      have := h.nd
      rw [List.map_append, List.append_assoc]
      simp only [List.map_cons, List.map_nil, List.singleton_append]
      refine List.Perm.nodup_iff (List.perm_middle) |>.2 (List.nodup_cons.2 ⟨?_, this⟩)
      intro hm
      exact hnot (List.mem_append.1 hm)
theorem DS.visit_left {X : Nat → List Int} {n : Nat} {s : DS} {b : Nat} (hb : b < n) (hs : s.seen b = false) : (s.visit X b).left X n < s.left X n := by
  rw [DS.visit_yes hs]
  unfold DS.left
  have h := (tot_upd (fun k => if s.seen k = true then 0 else (X k).length + 2) (fun k => if (if k = b then true else s.seen k) = true then 0 else (X k).length + 2) b (fun k hk => by simp only [if_neg hk]) n).1 hb
  simp only [if_true, hs] at h
  simp only [List.map_append, List.map_cons, List.map_nil, List.sum_append, List.sum_cons, List.sum_nil]
  simp at h ⊢
  omega
theorem DS.visit_left' {X : Nat → List Int} {n : Nat} {s : DS} {b : Nat} (hb : b < n) : (s.visit X b).left X n ≤ s.left X n := by
  cases hs : s.seen b with
  | true => rw [DS.visit_no hs]; exact Nat.le_refl _
  | false => exact Nat.le_of_lt (DS.visit_left hb hs)
theorem Step.inv {n : Nat} {X : Nat → List Int} (hX : Right n X) {s t : DS} (hs : Step X s t) (h : Inv n X s) : Inv n X t := by
  cases hs with
  | pop seen op b done =>
    have hb := (h.op (b, 0) (by simp)).1
    refine ⟨fun p hp => h.op p (by simp [hp]), fun c hc => ?_, fun k => ?_, ?_⟩
    · rcases List.mem_append.1 hc with hc | hc
      · exact h.done c hc
      · rw [List.mem_singleton] at hc; subst hc; exact hb
    · show seen k = true ↔ _
      have := h.seen k
      rw [show seen k = true ↔ _ from this]
      simp only [List.map_append, List.map_cons, List.map_nil, List.mem_append, List.mem_singleton]
      constructor
      · rintro ((h1 | h1) | h1)
        · exact .inl h1
        · exact .inr (.inr h1)
        · exact .inr (.inl h1)
      · rintro (h1 | h1 | h1)
        · exact .inl (.inl h1)
        · exact .inr h1
        · exact .inl (.inr h1)
    · have h1 := h.nd
      show (op.map (·.1) ++ (done ++ [b])).Nodup
      refine List.Perm.nodup_iff ?_ |>.1 h1
      simp only [List.map_append, List.map_cons, List.map_nil, List.append_assoc]
      exact List.Perm.append_left _ (List.perm_append_comm)
  | way seen op b l done =>
    have hb := h.op (b, l + 1) (by simp)
    have hr := hX b hb.1 l (by have := hb.2; simp only at this; omega)
    refine Inv.visit (X := X) (s := ⟨seen, op ++ [(b, l)], done⟩) (b := ((X b).getD l 0).toNat) ⟨fun p hp => ?_, h.done, fun k => ?_, ?_⟩ (by omega)
    · rcases List.mem_append.1 hp with hp | hp
      · exact h.op p (by simp [hp])
      · rw [List.mem_singleton] at hp; subst hp; exact ⟨hb.1, by have := hb.2; simp only at this ⊢; omega⟩
    · have := h.seen k
      simpa using this
    · have := h.nd
      simpa using this
theorem Step.less {n : Nat} {X : Nat → List Int} (hX : Right n X) {s t : DS} (hs : Step X s t) (h : Inv n X s) : t.left X n < s.left X n := by
  cases hs with
  | pop seen op b done =>
    unfold DS.left
    simp
  | way seen op b l done =>
    have hb := h.op (b, l + 1) (by simp)
    have hr := hX b hb.1 l (by have := hb.2; simp only at this; omega)
    refine Nat.lt_of_le_of_lt (DS.visit_left' (n := n) (b := ((X b).getD l 0).toNat) (by omega)) ?_
    unfold DS.left
    simp
theorem Inv.start {n : Nat} (X : Nat → List Int) (hn : 0 < n) : Inv n X (DS.start X) :=
  Inv.visit ⟨fun p hp => by simp at hp, fun b hb => by simp at hb, fun b => by simp, by simp⟩ hn
theorem Reach.inv {n : Nat} {X : Nat → List Int} (hn : 0 < n) (hX : Right n X) {s : DS} (h : Reach X s) : Inv n X s := by
  induction h with
  | start => exact Inv.start X hn
  | step _ hs ih => exact hs.inv hX ih
theorem nodup_bound {n : Nat} {l : List Nat} (hd : l.Nodup) (hl : ∀ b, b ∈ l → b < n) : l.length ≤ n := by
  have := List.Nodup.length_le_of_subset hd (fun b hb => List.mem_range.2 (hl b hb))
  simpa using this
theorem Inv.size {n : Nat} {X : Nat → List Int} {s : DS} (h : Inv n X s) : s.op.length + s.done.length ≤ n := by
  have := nodup_bound h.nd (n := n) (fun b hb => by
    rcases List.mem_append.1 hb with hb | hb
    · obtain ⟨p, hp, rfl⟩ := List.mem_map.1 hb; exact (h.op p hp).1
    · exact h.done b hb)
  simpa using this
end Go.Proofs.Ytdpeckfdilpidaa
