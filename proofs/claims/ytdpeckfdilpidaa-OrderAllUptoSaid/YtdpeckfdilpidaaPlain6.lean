/- A branch to two parts that have nothing in common: its line. No program here. -/
import Derived.Test.YtdpeckfdilpidaaPlain5
set_option linter.unusedVariables false
set_option linter.unusedSimpArgs false
namespace Go.Proofs.Ytdpeckfdilpidaa
def up (l : List Int) (d : Nat) : List Int := l.map (· + (d : Int))
def WX (n1 : Nat) (X1 X2 : Nat → List Int) (k : Nat) : List Int :=
  if k = 0 then [1, 1 + (n1 : Int)] else if k ≤ n1 then up (X1 (k - 1)) 1 else up (X2 (k - 1 - n1)) (1 + n1)
theorem up_len (l : List Int) (d : Nat) : (up l d).length = l.length := by simp [up]
theorem up_get (l : List Int) (d : Nat) {i : Nat} (h : i < l.length) : (up l d).getD i 0 = l.getD i 0 + d := by
  simp [up, List.getD_eq_getElem?_getD, h]
section
variable {n1 n2 : Nat} {X1 X2 : Nat → List Int}
theorem WX0 : WX n1 X1 X2 0 = [1, 1 + (n1 : Int)] := rfl
theorem WX1 {k : Nat} (h : k ≠ 0) (h1 : k ≤ n1) : WX n1 X1 X2 k = up (X1 (k - 1)) 1 := by rw [WX, if_neg h, if_pos h1]
theorem WX2 {k : Nat} (h : k ≠ 0) (h1 : ¬ k ≤ n1) : WX n1 X1 X2 k = up (X2 (k - 1 - n1)) (1 + n1) := by rw [WX, if_neg h, if_neg h1]
theorem WX_right (h1 : Right n1 X1) (h2 : Right n2 X2) (p1 : 0 < n1) (p2 : 0 < n2) : Right (1 + n1 + n2) (WX n1 X1 X2) := by
  intro k hk i hi
  by_cases h0 : k = 0
  · subst h0
    rw [WX0] at hi ⊢
    rcases (show i = 0 ∨ i = 1 by simp at hi; omega) with rfl | rfl
    · simp; omega
    · simp; omega
  · by_cases hy : k ≤ n1
    · rw [WX1 h0 hy] at hi ⊢
      rw [up_len] at hi
      have := h1 (k - 1) (by omega) i hi
      rw [up_get _ _ hi]
      omega
    · rw [WX2 h0 hy] at hi ⊢
      rw [up_len] at hi
      have := h2 (k - 1 - n1) (by omega) i hi
      rw [up_get _ _ hi]
      omega
theorem way_yes (h1 : Right n1 X1) {k i : Nat} (h : k ≠ 0) (hy : k ≤ n1) (hi : i < (WX n1 X1 X2 k).length) : i < (X1 (k - 1)).length ∧ way (WX n1 X1 X2) k i = way X1 (k - 1) i + 1 ∧ way X1 (k - 1) i < n1 := by
  rw [WX1 h hy, up_len] at hi
  have := h1 (k - 1) (by omega) i hi
  refine ⟨hi, ?_, way_lt h1 (by omega) hi⟩
  unfold way
  rw [WX1 h hy, up_get _ _ hi]
  omega
theorem way_no (h2 : Right n2 X2) {k i : Nat} (h : k ≠ 0) (hy : ¬ k ≤ n1) (hk : k < 1 + n1 + n2) (hi : i < (WX n1 X1 X2 k).length) : i < (X2 (k - 1 - n1)).length ∧ n1 < way (WX n1 X1 X2) k i := by
  rw [WX2 h hy, up_len] at hi
  have := h2 (k - 1 - n1) (by omega) i hi
  refine ⟨hi, ?_⟩
  unfold way
  rw [WX2 h hy, up_get _ _ hi]
  omega
/-- How the done ones lie, while the walk goes on. -/
inductive WI (n1 : Nat) (s : DS) : Prop
  | two (h : s.op = [(0, 2)]) (hd : s.done = [])
  | one (r : List (Nat × Nat)) (h : s.op = (0, 1) :: r) (hr : ∀ p, p ∈ r → n1 < p.1) (hd : ∀ b, b ∈ s.done → n1 < b)
  | nil (r : List (Nat × Nat)) (d1 d2 : List Nat) (h : s.op = (0, 0) :: r) (hr : ∀ p, p ∈ r → p.1 ≠ 0 ∧ p.1 ≤ n1) (hd : s.done = d1 ++ d2) (h1 : ∀ b, b ∈ d1 → n1 < b) (h2 : ∀ b, b ∈ d2 → b ≠ 0 ∧ b ≤ n1)
  | end_ (d1 d2 : List Nat) (h : s.op = []) (hd : s.done = d1 ++ d2 ++ [0]) (h1 : ∀ b, b ∈ d1 → n1 < b) (h2 : ∀ b, b ∈ d2 → b ≠ 0 ∧ b ≤ n1)
theorem cons_snoc {α : Type} {op : List α} {x a : α} {r : List α} (h : op ++ [x] = a :: r) : (op = [] ∧ x = a ∧ r = []) ∨ ∃ r', op = a :: r' ∧ r = r' ++ [x] := by
  cases op with
  | nil => simp at h; exact .inl ⟨rfl, h.1, h.2⟩
  | cons b op => simp at h; exact .inr ⟨op, by rw [h.1], h.2.symm⟩
/-- A visit puts at most one block more on top. -/
theorem visit_op (X : Nat → List Int) (s : DS) (b : Nat) : (s.visit X b).done = s.done ∧ ((s.visit X b).op = s.op ∨ (s.visit X b).op = s.op ++ [(b, (X b).length)]) := by
  unfold DS.visit
  split
  · exact ⟨rfl, .inl rfl⟩
  · exact ⟨rfl, .inr rfl⟩
theorem WI.step (h1 : Right n1 X1) (h2 : Right n2 X2) (p1 : 0 < n1) {s t : DS} (hs : Step (WX n1 X1 X2) s t) (hi : Inv (1 + n1 + n2) (WX n1 X1 X2) s) (h : WI n1 s) : WI n1 t := by
  cases hs with
  | pop seen op b done =>
    cases h with
    | two h hd =>
      rcases cons_snoc h with ⟨rfl, e, _⟩ | ⟨r', _, e⟩
      · injection e with _ e; cases e
      · simp at e
    | one r h hr hd =>
      rcases cons_snoc h with ⟨rfl, e, _⟩ | ⟨r', rfl, rfl⟩
      · injection e with _ e; cases e
      · refine .one r' rfl (fun p hp => hr p (by simp [hp])) fun c hc => ?_
        rcases List.mem_append.1 hc with hc | hc
        · exact hd c hc
        · rw [List.mem_singleton] at hc; subst hc; exact hr (c, 0) (by simp)
    | nil r d1 d2 h hr hd g1 g2 =>
      have hd' : done = d1 ++ d2 := hd
      rcases cons_snoc h with ⟨rfl, e, _⟩ | ⟨r', rfl, rfl⟩
      · injection e with e _
        exact .end_ d1 d2 rfl (by show done ++ [b] = _; rw [hd', e]) g1 g2
      · refine .nil r' d1 (d2 ++ [b]) rfl (fun p hp => hr p (by simp [hp])) (by show done ++ [b] = _; rw [hd', List.append_assoc]) g1 fun c hc => ?_
        rcases List.mem_append.1 hc with hc | hc
        · exact g2 c hc
        · rw [List.mem_singleton] at hc; subst hc; exact hr (c, 0) (by simp)
    | end_ d1 d2 h hd g1 g2 => simp at h
  | way seen op b l done =>
    have hb := hi.op (b, l + 1) (by simp)
    have hbl : l < (WX n1 X1 X2 b).length := by have := hb.2; simp only at this; omega
    have hV := visit_op (WX n1 X1 X2) ⟨seen, op ++ [(b, l)], done⟩ (way (WX n1 X1 X2) b l)
    show WI n1 (DS.visit (WX n1 X1 X2) ⟨seen, op ++ [(b, l)], done⟩ (way (WX n1 X1 X2) b l))
    obtain ⟨hV1, hV2⟩ := hV
    cases h with
    | two h hd =>
      rcases cons_snoc h with ⟨rfl, e, _⟩ | ⟨r', _, e⟩
      · injection e with e1 e2
        have e2' : l = 1 := by omega
        subst e1 e2'
        have hw : way (WX n1 X1 X2) 0 1 = 1 + n1 := by unfold way; rw [WX0]; simp; omega
        rw [hw] at hV1 hV2 ⊢
        rcases hV2 with e | e
        · exact .one [] e (fun p hp => by cases hp) (by rw [hV1, show done = [] from hd]; intro b hb; cases hb)
        · exact .one _ e (fun p hp => by simp at hp; rw [hp]; show n1 < 1 + n1; omega) (by rw [hV1, show done = [] from hd]; intro b hb; cases hb)
      · simp at e
    | one r h hr hd =>
      rcases cons_snoc h with ⟨rfl, e, rfl⟩ | ⟨r', rfl, rfl⟩
      · injection e with e1 e2
        have e2' : l = 0 := by omega
        subst e1 e2'
        have hw : way (WX n1 X1 X2) 0 0 = 1 := by unfold way; rw [WX0]; simp
        rw [hw] at hV1 hV2 ⊢
        rcases hV2 with e | e
        · exact .nil [] done [] e (fun p hp => by cases hp) (by rw [hV1]; simp) hd (fun b hb => by cases hb)
        · exact .nil _ done [] e (fun p hp => by simp at hp; rw [hp]; exact ⟨Nat.one_ne_zero, by show 1 ≤ n1; omega⟩) (by rw [hV1]; simp) hd (fun b hb => by cases hb)
      · have hbn := hr (b, l + 1) (by simp)
        have hwn := (way_no (n2 := n2) h2 (k := b) (by simp only at hbn; omega) (by simp only at hbn; omega) hb.1 hbl).2
        have hr' : ∀ p, p ∈ r' ++ [(b, l)] → n1 < p.1 := fun p hp => by
          rcases List.mem_append.1 hp with hp | hp
          · exact hr p (by simp [hp])
          · rw [List.mem_singleton] at hp; subst hp; exact hbn
        rcases hV2 with e | e
        · exact .one _ e hr' (by rw [hV1]; exact hd)
        · exact .one (r' ++ [(b, l)] ++ [(way (WX n1 X1 X2) b l, _)]) (by rw [e]; simp; rfl) (fun p hp => by
            rcases List.mem_append.1 hp with hp | hp
            · exact hr' p hp
            · rw [List.mem_singleton] at hp; subst hp; exact hwn) (by rw [hV1]; exact hd)
    | nil r d1 d2 h hr hd g1 g2 =>
      rcases cons_snoc h with ⟨rfl, e, rfl⟩ | ⟨r', rfl, rfl⟩
      · injection e with _ e; omega
      · have hbn := hr (b, l + 1) (by simp)
        have hwn := way_yes (n1 := n1) (X1 := X1) (X2 := X2) h1 (k := b) hbn.1 hbn.2 hbl
        have hr' : ∀ p, p ∈ r' ++ [(b, l)] → p.1 ≠ 0 ∧ p.1 ≤ n1 := fun p hp => by
          rcases List.mem_append.1 hp with hp | hp
          · exact hr p (by simp [hp])
          · rw [List.mem_singleton] at hp; subst hp; exact hbn
        rcases hV2 with e | e
        · exact .nil _ d1 d2 e hr' (by rw [hV1]; exact hd) g1 g2
        · exact .nil (r' ++ [(b, l)] ++ [(way (WX n1 X1 X2) b l, _)]) d1 d2 (by rw [e]; simp; rfl) (fun p hp => by
            rcases List.mem_append.1 hp with hp | hp
            · exact hr' p hp
            · rw [List.mem_singleton] at hp; subst hp; show way _ _ _ ≠ 0 ∧ _; omega) (by rw [hV1]; exact hd) g1 g2
    | end_ d1 d2 h hd g1 g2 => simp at h
theorem WI.start : WI n1 (DS.start (WX n1 X1 X2)) := by
  rw [DS.start, DS.visit_yes rfl]
  exact .two rfl rfl
theorem Reach.wi (h1 : Right n1 X1) (h2 : Right n2 X2) (p1 : 0 < n1) (p2 : 0 < n2) {s : DS} (h : Reach (WX n1 X1 X2) s) : WI n1 s := by
  induction h with
  | start => exact WI.start
  | step k hs ih => exact ih.step h1 h2 p1 hs (k.inv (by omega) (WX_right h1 h2 p1 p2))
theorem to_in (h1 : Right n1 X1) (h2 : Right n2 X2) (p1 : 0 < n1) (p2 : 0 < n2) {b : Nat} (h : To (WX n1 X1 X2) 0 b) : b = 0 ∨ (b ≠ 0 ∧ b ≤ n1 ∧ To X1 0 (b - 1)) ∨ n1 < b := by
  have hR := WX_right h1 h2 p1 p2
  induction h with
  | refl => exact .inl rfl
  | tail i hb hi ih =>
    rename_i c
    rcases ih with rfl | ⟨e1, e2, e3⟩ | e
    · rcases (show i = 0 ∨ i = 1 by rw [WX0] at hi; simp at hi; omega) with rfl | rfl
      · have hw : way (WX n1 X1 X2) 0 0 = 1 := by unfold way; rw [WX0]; simp
        rw [hw]; exact .inr (.inl ⟨by decide, by omega, .refl⟩)
      · have hw : way (WX n1 X1 X2) 0 1 = 1 + n1 := by unfold way; rw [WX0]; simp; omega
        rw [hw]; exact .inr (.inr (by omega))
    · have := way_yes (n1 := n1) (X1 := X1) (X2 := X2) h1 e1 e2 hi
      refine .inr (.inl ⟨by omega, by omega, ?_⟩)
      rw [this.2.1, Nat.add_sub_cancel]
      exact .tail i e3 this.1
    · exact .inr (.inr (way_no (n2 := n2) h2 (by omega) (by omega) (To.lt hR (by omega) hb) hi).2)
theorem to_out (h1 : Right n1 X1) (p1 : 0 < n1) {k : Nat} (h : To X1 0 k) : To (WX n1 X1 X2) 0 (k + 1) := by
  induction h with
  | refl =>
    have hw : way (WX n1 X1 X2) 0 0 = 1 := by unfold way; rw [WX0]; simp
    have := To.tail (X := WX n1 X1 X2) 0 (To.refl (a := 0)) (by rw [WX0]; simp)
    rwa [hw] at this
  | tail i hb hi ih =>
    rename_i c
    have hc := To.lt h1 p1 hb
    have hl : i < (WX n1 X1 X2 (c + 1)).length := by rw [WX1 (by omega) (by omega), up_len]; exact hi
    have := way_yes (n1 := n1) (X1 := X1) (X2 := X2) h1 (k := c + 1) (by omega) (by omega) hl
    have h3 := To.tail i ih hl
    rwa [this.2.1] at h3
def cnt (f : Nat → Bool) : Nat → Nat
  | 0 => 0
  | n + 1 => cnt f n + if f n = true then 1 else 0
theorem cnt_filter (f : Nat → Bool) : ∀ n, cnt f n = ((List.range n).filter f).length
  | 0 => rfl
  | n + 1 => by
    rw [cnt, cnt_filter f n, List.range_succ, List.filter_append, List.length_append]
    by_cases h : f n = true <;> simp [h]
theorem cnt_le (f : Nat → Bool) (n : Nat) : cnt f n ≤ n := by
  induction n with
  | zero => exact Nat.le_refl _
  | succ n ih => simp only [cnt]; split <;> omega
theorem ways_line (h1 : Right n1 X1) (h2 : Right n2 X2) (p1 : 0 < n1) (p2 : 0 < n2) {s : DS} (h : Reach (WX n1 X1 X2) s) (ho : s.op = []) {f : Nat → Bool} (hf : ∀ k, f k = true ↔ To X1 0 k) :
    1 + cnt f n1 < s.done.length ∧ ∀ i, i < s.done.length → decide (i < 1 + cnt f n1) = decide (s.done.reverse.getD i 0 ≤ n1) := by
  have hL := h.line (n := 1 + n1 + n2) (by omega) (WX_right h1 h2 p1 p2) ho
  cases h.wi h1 h2 p1 p2 with
  | two e _ => rw [ho] at e; cases e
  | one r e _ _ => rw [ho] at e; cases e
  | nil r d1 d2 e _ _ _ _ => rw [ho] at e; cases e
  | end_ d1 d2 _ hd g1 g2 =>
    have hrow : s.done.reverse = 0 :: (d2.reverse ++ d1.reverse) := by rw [hd]; simp
    have hnd : (d1 ++ d2).Nodup := by
      have := hL.nd
      rw [hrow] at this
      have h3 := (List.nodup_cons.1 this).2
      have h4 : (d1 ++ d2).reverse.Nodup := by simpa using h3
      exact (List.reverse_perm _).nodup_iff.1 h4
    have hmem : ∀ b, b ∈ d2 ↔ b ∈ ((List.range n1).filter f).map (· + 1) := fun b => by
      constructor
      · intro hb
        have hr : b ∈ s.done.reverse := by rw [hrow]; simp [hb]
        have := g2 b hb
        rcases to_in h1 h2 p1 p2 ((hL.mem b).1 hr) with e | ⟨_, _, e⟩ | e
        · exact absurd e this.1
        · refine List.mem_map.2 ⟨b - 1, List.mem_filter.2 ⟨List.mem_range.2 (by omega), (hf _).2 e⟩, by omega⟩
        · omega
      · intro hb
        obtain ⟨k, hk, rfl⟩ := List.mem_map.1 hb
        obtain ⟨hk1, hk2⟩ := List.mem_filter.1 hk
        have hk1 := List.mem_range.1 hk1
        have := (hL.mem (k + 1)).2 (to_out h1 p1 ((hf k).1 hk2))
        rw [hrow] at this
        simp at this
        rcases this with e | e
        · exact e
        · have := g1 _ e; omega
    have hnd2 : d2.Nodup := (List.nodup_append.1 hnd).2.1
    have hlen : d2.length = cnt f n1 := by
      rw [cnt_filter]
      have e1 := List.Nodup.length_le_of_subset hnd2 (fun b hb => (hmem b).1 hb)
      have e2 := List.Nodup.length_le_of_subset (l₁ := ((List.range n1).filter f).map (· + 1)) (List.Pairwise.map _ (fun a b (hab : a ≠ b) => by omega) ((List.nodup_range).filter f)) (fun b hb => (hmem b).2 hb)
      simp at e1 e2
      omega
    have hd1 : 0 < d1.length := by
      have hR := WX_right h1 h2 p1 p2
      have hw : way (WX n1 X1 X2) 0 1 = 1 + n1 := by unfold way; rw [WX0]; simp; omega
      have := To.tail (X := WX n1 X1 X2) 1 (To.refl (a := 0)) (by rw [WX0]; simp)
      rw [hw] at this
      have := (hL.mem _).2 this
      rw [hrow] at this
      simp at this
      rcases this with e | e
      · have := g2 _ e; omega
      · exact List.length_pos_of_mem e
    refine ⟨by rw [hd]; simp; omega, fun i hi => ?_⟩
    rw [hrow]
    apply decide_eq_decide.2
    cases i with
    | zero => simp; omega
    | succ i =>
      rw [hd] at hi
      simp at hi
      by_cases hc : i < d2.length
      · have e : (0 :: (d2.reverse ++ d1.reverse)).getD (i + 1) 0 ∈ d2 := by
          rw [List.getD_eq_getElem?_getD, List.getElem?_cons_succ, List.getElem?_append_left (by simpa using hc)]
          rw [← List.getD_eq_getElem?_getD]
          exact List.mem_reverse.1 (getD_mem (by simpa using hc))
        have := g2 _ e
        omega
      · have e : (0 :: (d2.reverse ++ d1.reverse)).getD (i + 1) 0 ∈ d1 := by
          rw [List.getD_eq_getElem?_getD, List.getElem?_cons_succ, List.getElem?_append_right (by simpa using hc)]
          rw [← List.getD_eq_getElem?_getD]
          exact List.mem_reverse.1 (getD_mem (by simp; omega))
        have := g1 _ e
        omega
end
end Go.Proofs.Ytdpeckfdilpidaa
