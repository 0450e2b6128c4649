/- The document's own walk goes along with the walk in depth. No program here. -/
import Derived.Test.YtdpeckfdilpidaaPlain6
set_option linter.unusedVariables false
set_option linter.unusedSimpArgs false
namespace Go.Proofs.Ytdpeckfdilpidaa
def topOf (op : List (Nat × Nat)) : Int := match op.getLast? with
  | none => -1
  | some p => (p.1 : Int)
theorem topOf_nil : topOf [] = -1 := rfl
theorem topOf_snoc (op : List (Nat × Nat)) (p : Nat × Nat) : topOf (op ++ [p]) = (p.1 : Int) := by simp [topOf]
/-- Each open block's 'from' is the block below it. -/
def Froms (fm : Nat → Int) : Int → List (Nat × Nat) → Prop
  | _, [] => True
  | prev, q :: r => fm q.1 = prev ∧ Froms fm (q.1 : Int) r
theorem Froms.last {fm : Nat → Int} : ∀ {op : List (Nat × Nat)} {p : Nat × Nat} {prev : Int}, Froms fm prev (op ++ [p]) → (fm p.1 = match op.getLast? with
      | none => prev
      | some q => (q.1 : Int)) ∧ Froms fm prev op
  | [], p, prev, h => ⟨h.1, trivial⟩
  | [q], p, prev, h => ⟨h.2.1, h.1, trivial⟩
  | q :: q' :: r, p, prev, h => by
    obtain ⟨h1, h2⟩ := h
    obtain ⟨h3, h4⟩ := Froms.last (op := q' :: r) h2
    refine ⟨?_, h1, h4⟩
    rw [h3, List.getLast?_cons_cons]
    have : (q' :: r).getLast? ≠ none := by simp
    cases hh : (q' :: r).getLast? with
    | none => exact absurd hh this
    | some x => rfl
theorem Froms.popped {fm : Nat → Int} {op : List (Nat × Nat)} {p : Nat × Nat} (h : Froms fm (-1) (op ++ [p])) : fm p.1 = topOf op ∧ Froms fm (-1) op := by
  obtain ⟨h1, h2⟩ := h.last
  refine ⟨?_, h2⟩
  rw [h1]
  unfold topOf
  cases op.getLast? <;> rfl
theorem Froms.snoc {fm : Nat → Int} : ∀ {op : List (Nat × Nat)} {p : Nat × Nat} {prev : Int}, Froms fm prev op → (fm p.1 = match op.getLast? with
      | none => prev
      | some q => (q.1 : Int)) → Froms fm prev (op ++ [p])
  | [], p, prev, _, h => ⟨h, trivial⟩
  | [q], p, prev, h1, h => ⟨h1.1, h, trivial⟩
  | q :: q' :: r, p, prev, h1, h => by
    refine ⟨h1.1, Froms.snoc (op := q' :: r) h1.2 ?_⟩
    rw [h, List.getLast?_cons_cons]
    have : (q' :: r).getLast? ≠ none := by simp
    cases hh : (q' :: r).getLast? with
    | none => exact absurd hh this
    | some x => rfl
theorem Froms.congr {fm fm' : Nat → Int} : ∀ {op : List (Nat × Nat)} {prev : Int}, Froms fm prev op → (∀ p, p ∈ op → fm' p.1 = fm p.1) → Froms fm' prev op
  | [], _, _, _ => trivial
  | q :: r, prev, h, he => ⟨by rw [he q (by simp)]; exact h.1, Froms.congr h.2 fun p hp => he p (by simp [hp])⟩
theorem Froms.left {fm : Nat → Int} : ∀ {op : List (Nat × Nat)} {b l l' : Nat} {prev : Int}, Froms fm prev (op ++ [(b, l)]) → Froms fm prev (op ++ [(b, l')])
  | [], _, _, _, _, h => h
  | q :: r, b, l, l', prev, h => ⟨h.1, Froms.left (op := r) h.2⟩
def upi (f : Nat → Int) (k : Nat) (x : Int) : Nat → Int := fun j => if j = k then x else f j
theorem upi_same (f : Nat → Int) (k : Nat) (x : Int) : upi f k x k = x := by simp [upi]
theorem upi_other (f : Nat → Int) (k : Nat) (x : Int) {j : Nat} (h : j ≠ k) : upi f k x j = f j := by simp [upi, h]
structure RF (len : Nat) (X : Nat → List Int) (s : DS) (st nx fm : Nat → Int) : Prop where
  hst : ∀ k, st k = 0 ↔ s.seen k = false
  hnx : ∀ p, p ∈ s.op → nx p.1 + (p.2 : Int) = ((X p.1).length : Int)
  hn0 : ∀ k, s.seen k = false → nx k = 0
  hfm : Froms fm (-1) s.op
section
variable {len : Nat} {X : Nat → List Int} {seen : Nat → Bool} {op : List (Nat × Nat)} {done : List Nat} {st nx fm : Nat → Int} {b l : Nat}
theorem RF.start : RF len X (DS.start X) (upi (fun _ => 0) 0 1) (fun _ => 0) (upi (fun _ => 0) 0 (-1)) := by
  rw [DS.start, DS.visit_yes rfl]
  refine ⟨fun k => ?_, fun p hp => ?_, fun k _ => rfl, ⟨upi_same _ _ _, trivial⟩⟩
  · show _ ↔ (if k = 0 then true else false) = false
    by_cases hk : k = 0
    · subst hk; simp [upi]
    · simp [upi, hk]
  · simp at hp; subst hp; simp
theorem RF.pop (h : RF len X ⟨seen, op ++ [(b, 0)], done⟩ st nx fm) (hi : Inv len X ⟨seen, op ++ [(b, 0)], done⟩) : RF len X ⟨seen, op, done ++ [b]⟩ (upi st b 2) nx fm ∧ fm b = topOf op := by
  have hb : seen b = true := (hi.seen b).2 (.inl (by simp))
  refine ⟨⟨fun k => ?_, fun p hp => h.hnx p (by simp [hp]), h.hn0, h.hfm.popped.2⟩, h.hfm.popped.1⟩
  by_cases hk : k = b
  · subst hk; rw [upi_same]; show (2 : Int) = 0 ↔ seen k = false; rw [hb]; simp
  · rw [upi_other _ _ _ hk]; exact h.hst k
theorem RF.gone (h : RF len X ⟨seen, op ++ [(b, l + 1)], done⟩ st nx fm) (hi : Inv len X ⟨seen, op ++ [(b, l + 1)], done⟩) : RF len X ⟨seen, op ++ [(b, l)], done⟩ st (upi nx b (nx b + 1)) fm := by
  have hb : seen b = true := (hi.seen b).2 (.inl (by simp))
  have hnb : ∀ p, p ∈ op → p.1 ≠ b := fun p hp e => by
    have := hi.nd
    have h2 := (List.nodup_append.1 this).1
    rw [List.map_append] at h2
    have := (List.nodup_append.1 h2).2.2 p.1 (List.mem_map.2 ⟨p, hp, rfl⟩) b (by simp)
    exact this e
  refine ⟨h.hst, fun p hp => ?_, fun k hk => ?_, h.hfm.left⟩
  · rcases List.mem_append.1 hp with hp | hp
    · rw [upi_other _ _ _ (hnb p hp)]; exact h.hnx p (by simp [hp])
    · rw [List.mem_singleton] at hp
      subst hp
      rw [upi_same]
      have := h.hnx (b, l + 1) (by simp)
      simp only at this ⊢
      omega
  · have hne : k ≠ b := fun e => by subst e; rw [show seen k = false from hk] at hb; cases hb
    rw [upi_other _ _ _ hne]
    exact h.hn0 k hk
theorem RF.visited {c : Nat} (h : RF len X ⟨seen, op ++ [(b, l)], done⟩ st nx fm) (hi : Inv len X ⟨seen, op ++ [(b, l)], done⟩) (hc : seen c = false) :
    RF len X (DS.visit X ⟨seen, op ++ [(b, l)], done⟩ c) (upi st c 1) nx (upi fm c (b : Int)) := by
  rw [DS.visit_yes hc]
  have hnc : ∀ p, p ∈ op ++ [(b, l)] → p.1 ≠ c := fun p hp e => by
    have : seen c = true := (hi.seen c).2 (.inl (List.mem_map.2 ⟨p, hp, e⟩))
    rw [hc] at this; cases this
  refine ⟨fun k => ?_, fun p hp => ?_, fun k hk => ?_, ?_⟩
  · show upi st c 1 k = 0 ↔ (if k = c then true else seen k) = false
    by_cases hk : k = c
    · subst hk; rw [upi_same]; simp
    · rw [upi_other _ _ _ hk, if_neg hk]; exact h.hst k
  · rcases List.mem_append.1 hp with hp | hp
    · exact h.hnx p hp
    · rw [List.mem_singleton] at hp
      subst hp
      have := h.hn0 c hc
      simp only
      omega
  · have hk' : (if k = c then true else seen k) = false := hk
    by_cases he : k = c
    · rw [if_pos he] at hk'; cases hk'
    · rw [if_neg he] at hk'; exact h.hn0 k hk'
  · refine Froms.snoc (h.hfm.congr fun p hp => upi_other _ _ _ (hnc p hp)) ?_
    rw [upi_same]
    simp
end
end Go.Proofs.Ytdpeckfdilpidaa
