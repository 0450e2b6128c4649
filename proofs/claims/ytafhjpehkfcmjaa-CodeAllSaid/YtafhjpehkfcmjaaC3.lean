/- apart: how its lists stand, in its three parts. No walk here. -/
import Derived.Test.YtafhjpehkfcmjaaC2
import Derived.Test.YtafhjpehkfcmjaaW48
set_option linter.unusedVariables false
set_option linter.unusedSimpArgs false
namespace Go.Proofs.Ytafhjpehkfcmjaa
open Go.ChangeShapes Go.WideShapes Go.RowKit
/-! ### what the cells hold -/
def val0 (n0 : Nat → Nat) (i j : Nat) : Value := .int .u8 (if j < n0 i then (i : Int) + 1 else (i : Int) + 101)
def insM (n1 : Nat → Nat) (i a : Nat) : Ins := if a < n1 i then ⟨-1 - (i : Int), 0, 0, 0, a⟩ else ⟨-1000000 - (i : Int), 0, 0, 0, 0⟩
def fnM (n2 : Nat → Nat) (i a : Nat) : Fn := if a < n2 i then ⟨⟨#[]⟩, 0, -1 - (i : Int), a, 0⟩ else ⟨⟨#[]⟩, 0, -1000000 - (i : Int), 0, 0⟩
def cI (x : Ins) (t : Nat) : Value := if t = 0 then .int .i64 x.op else if t = 1 then .int .i64 x.a else if t = 2 then .int .i64 x.b else if t = 3 then .int .i64 x.c else .int .i64 x.n
def cF (x : Fn) (t : Nat) : Value := if t = 0 then .string x.name else if t = 1 then .int .i64 x.frame else if t = 2 then .int .i64 x.first else if t = 3 then .int .i64 x.count else .int .i64 x.params
def val1 (n1 : Nat → Nat) (i j : Nat) : Value := cI (insM n1 i (j / 5)) (j % 5)
def val2 (n2 : Nat → Nat) (i j : Nat) : Value := cF (fnM n2 i (j / 5)) (j % 5)
theorem val1_at (n1 : Nat → Nat) (i a t : Nat) (ht : t < 5) : val1 n1 i (a * 5 + t) = cI (insM n1 i a) t := by
  unfold val1
  rw [show (a * 5 + t) / 5 = a by omega, show (a * 5 + t) % 5 = t by omega]
theorem val2_at (n2 : Nat → Nat) (i a t : Nat) (ht : t < 5) : val2 n2 i (a * 5 + t) = cF (fnM n2 i a) t := by
  unfold val2
  rw [show (a * 5 + t) / 5 = a by omega, show (a * 5 + t) % 5 = t by omega]
theorem cellsOf_succ (f : Nat → Value) (k : Nat) : cellsOf f (k + 1) = cellsOf f k ++ [f k] := by simp [cellsOf, List.range_succ]
theorem cells_one0 (n0 : Nat → Nat) (i t : Nat) : cellsOf (val0 n0 i) ((n0 i + t) * 1) ++ [.int .u8 ((i : Int) + 101)] = cellsOf (val0 n0 i) ((n0 i + (t + 1)) * 1) := by
  rw [Nat.mul_one, Nat.mul_one, ← Nat.add_assoc, cellsOf_succ]
  congr 2
  unfold val0
  rw [if_neg (by omega)]
theorem cells_five (f : Nat → Value) (k : Nat) : cellsOf f ((k + 1) * 5) = cellsOf f (k * 5) ++ [f (k * 5), f (k * 5 + 1), f (k * 5 + 2), f (k * 5 + 3), f (k * 5 + 4)] := by
  rw [show (k + 1) * 5 = k * 5 + 1 + 1 + 1 + 1 + 1 by omega, cellsOf_succ, cellsOf_succ, cellsOf_succ, cellsOf_succ, cellsOf_succ]
  simp
theorem cells_one1 (n1 : Nat → Nat) (i t : Nat) : cellsOf (val1 n1 i) ((n1 i + t) * 5) ++ [.int .i64 (-1000000 - (i : Int)), .int .i64 0, .int .i64 0, .int .i64 0, .int .i64 0] = cellsOf (val1 n1 i) ((n1 i + (t + 1)) * 5) := by
  rw [← Nat.add_assoc, cells_five]
  have e := val1_at n1 i (n1 i + t) 0 (by omega)
  rw [Nat.add_zero] at e
  rw [e, val1_at n1 i (n1 i + t) 1 (by omega), val1_at n1 i (n1 i + t) 2 (by omega), val1_at n1 i (n1 i + t) 3 (by omega), val1_at n1 i (n1 i + t) 4 (by omega), insM, if_neg (by omega)]
  rfl
theorem cells_one2 (n2 : Nat → Nat) (i t : Nat) : cellsOf (val2 n2 i) ((n2 i + t) * 5) ++ [.string ⟨#[]⟩, .int .i64 0, .int .i64 (-1000000 - (i : Int)), .int .i64 0, .int .i64 0] = cellsOf (val2 n2 i) ((n2 i + (t + 1)) * 5) := by
  rw [← Nat.add_assoc, cells_five]
  have e := val2_at n2 i (n2 i + t) 0 (by omega)
  rw [Nat.add_zero] at e
  rw [e, val2_at n2 i (n2 i + t) 1 (by omega), val2_at n2 i (n2 i + t) 2 (by omega), val2_at n2 i (n2 i + t) 3 (by omega), val2_at n2 i (n2 i + t) 4 (by omega), fnM, if_neg (by omega)]
  rfl
/-! ### marking: the cells are written in order -/
def F1P (w : World) (H : Nat) (e : TypeId) (size N : Nat) (V : Nat → Value) (n : Nat → Nat) (val : Nat → Nat → Value) (i q : Nat) : Prop :=
  ∃ X, F1 w H e size N V n X ∧ (∀ k, k < N → k < i → X k = cellsOf (val k) (n k * size)) ∧ ∀ t, t < q → (X i)[t]? = some (val i t)
section
variable {w w' : World} {H : Nat} {e : TypeId} {size N : Nat} {V : Nat → Value} {n : Nat → Nat} {val : Nat → Nat → Value} {i q b c : Nat} {X : Nat → List Value}
theorem F1P.start (h : F1 w H e size N V n X) : F1P w H e size N V n val 0 0 := ⟨X, h, fun k _ hk => absurd hk (Nat.not_lt_zero _), fun t ht => absurd ht (Nat.not_lt_zero _)⟩
theorem F1P.keep (h : F1P w H e size N V n val i q) (o : Only (fun b => ¬ TB w b e) w w') : F1P w' H e size N V n val i q := let ⟨X, h1, h2⟩ := h; ⟨X, h1.keep o, h2⟩
theorem F1P.shape (h : F1P w H e size N V n val i q) {k : Nat} (hk : k < N) : ∃ A c, V k = .slice A (n k) c ∧ n k ≤ c ∧ c ≤ 9223372036854775807 ∧ (0 < n k → ∃ b, A = some ⟨b, 0, none⟩) := by
  obtain ⟨X, h1, _⟩ := h
  obtain ⟨A, c, e, k1, k2, hg⟩ := own_shape (h1.rows k hk)
  unfold maxLen at k2
  exact ⟨A, c, e, k1, k2, fun h0 => let ⟨g, e2, _⟩ := hg h0; ⟨g, e2⟩⟩
theorem F1P.cell (h : F1P w H e size N V n val i q) {k : Nat} (hk : k < N) (hV : V k = .slice (some ⟨b, 0, none⟩) (n k) c) {j : Nat} (hj : j < n k * size) : ∃ u, w.cell? ⟨b, j, none⟩ = some u := by
  obtain ⟨X, h1, _⟩ := h
  have hl := (h1.rows k hk).1
  exact ⟨_, (h1.cell hk hV hj).trans (List.getElem?_eq_getElem (by rw [hl]; exact hj))⟩
theorem F1P.frozen (h : F1P w H e size N V n val i q) {k : Nat} (hk : k < N) (hV : V k = .slice (some ⟨b, 0, none⟩) (n k) c) (j : Nat) : w.frozen? ⟨b, j, none⟩ = false := let ⟨_, h1, _⟩ := h; h1.frozen hk hV j
theorem F1P.tb (h : F1P w H e size N V n val i q) {k : Nat} (hk : k < N) (hV : V k = .slice (some ⟨b, 0, none⟩) (n k) c) : TB w b e ∧ H ≤ b := let ⟨_, h1, _⟩ := h; h1.tb hk (by rw [hV]; rfl)
theorem F1P.set_ (h : F1P w H e size N V n val i q) (hi : i < N) (hV : V i = .slice (some ⟨b, 0, none⟩) (n i) c) (hq : q < n i * size) (u : Value) (hu : u = val i q) : F1P (w.setCell ⟨b, q, none⟩ u) H e size N V n val i (q + 1) := by
  obtain ⟨X, h1, h2, h3⟩ := h
  refine ⟨_, h1.set_ hi hV q u, fun k hk hki => ?_, fun t ht => ?_⟩
  · rw [updV_off _ _ (by omega)]; exact h2 k hk hki
  · rw [updV_same]
    have hl := (h1.rows i hi).1
    by_cases e : t = q
    · subst e
      rw [List.getElem?_set_self (by omega), hu]
    · rw [List.getElem?_set_ne (fun h => e h.symm)]
      exact h3 t (by omega)
theorem F1P.done (h : F1P w H e size N V n val i (n i * size)) (hi : i < N) : F1P w H e size N V n val (i + 1) 0 := by
  obtain ⟨X, h1, h2, h3⟩ := h
  refine ⟨X, h1, fun k hk hki => ?_, fun t ht => absurd ht (Nat.not_lt_zero _)⟩
  by_cases e : k = i
  · subst e
    refine List.ext_getElem? fun j => ?_
    have hl := (h1.rows k hk).1
    rcases Nat.lt_or_ge j (n k * size) with hj | hj
    · rw [h3 j hj, cellsOf_get _ hj]
    · rw [List.getElem?_eq_none (by omega), List.getElem?_eq_none (by rw [cellsOf_length]; exact hj)]
  · exact h2 k hk (by omega)
theorem F1P.fin (h : F1P w H e size N V n val N 0) (GV : Nat → Value) (B : Nat → Nat) : FA w H e size N V n val 0 GV B := by
  obtain ⟨X, h1, h2, _⟩ := h
  exact FA.start h1 (fun k hk => h2 k hk hk) GV B
end
end Go.Proofs.Ytafhjpehkfcmjaa
