/- r16's New: what it reads, as what a clone takes and gives; the machine at its beginning, as a plain thing. -/
import Derived.Test.YtkjfbojmkkdgoaaX19
set_option linter.unusedVariables false
set_option linter.unusedSimpArgs false
namespace Go.Proofs.Ytkjfbojmkkdgoaa
open Go.RowKit
def insL (i : Ins) : List Value := [.int .i64 i.op, .int .i64 i.a, .int .i64 i.b, .int .i64 i.c, .int .i64 i.n]
def fnL (f : Fn) : List Value := [.string f.name, .int .i64 f.frame, .int .i64 f.first, .int .i64 f.count, .int .i64 f.params]
/-- The cells of n of them. -/
def manyC {α : Type} (V : α → List Value) (X : Nat → α) : Nat → List Value
  | 0 => []
  | n + 1 => manyC V X n ++ V (X n)
theorem manyC_length {α : Type} {V : α → List Value} (hV : ∀ x, (V x).length = 5) (X : Nat → α) : ∀ n, (manyC V X n).length = n * 5
  | 0 => rfl
  | n + 1 => by rw [manyC, List.length_append, manyC_length hV X n, hV]; omega
theorem manyC_get {α : Type} {V : α → List Value} (hV : ∀ x, (V x).length = 5) (X : Nat → α) : ∀ n i r, i < n → r < 5 → (manyC V X n)[i * 5 + r]? = (V (X i))[r]?
  | 0, i, r, h, _ => by omega
  | n + 1, i, r, h, hr => by
    rw [manyC]
    by_cases hi : i < n
    · rw [List.getElem?_append_left (by rw [manyC_length hV]; omega)]
      exact manyC_get hV X n i r hi hr
    · have : i = n := by omega
      subst this
      rw [List.getElem?_append_right (by rw [manyC_length hV]; omega), manyC_length hV, show i * 5 + r - i * 5 = r by omega]
theorem manyC_one {α : Type} {V : α → List Value} (hV : ∀ x, ∀ u ∈ V x, u.oneCell' = true) (X : Nat → α) : ∀ n, ∀ u ∈ manyC V X n, u.oneCell' = true
  | 0, u, hu => by cases hu
  | n + 1, u, hu => by
    rw [manyC] at hu
    rcases List.mem_append.1 hu with h | h
    · exact manyC_one hV X n u h
    · exact hV _ u h
theorem insL_len (i : Ins) : (insL i).length = 5 := rfl
theorem fnL_len (f : Fn) : (fnL f).length = 5 := rfl
theorem insL_one (i : Ins) : ∀ u ∈ insL i, u.oneCell' = true := by
  intro u hu
  simp only [insL, List.mem_cons, List.not_mem_nil, or_false] at hu
  rcases hu with rfl | rfl | rfl | rfl | rfl <;> rfl
theorem fnL_one (i : Fn) : ∀ u ∈ fnL i, u.oneCell' = true := by
  intro u hu
  simp only [fnL, List.mem_cons, List.not_mem_nil, or_false] at hu
  rcases hu with rfl | rfl | rfl | rfl | rfl <;> rfl
theorem manyC_at {α : Type} {V : α → List Value} (hV : ∀ x, (V x).length = 5) (X : Nat → α) (n j : Nat) (u : Value) (h : (manyC V X n)[j]? = some u) : ∃ i r, i < n ∧ r < 5 ∧ j = i * 5 + r ∧ (V (X i))[r]? = some u := by
  have hj : j < n * 5 := by
    rcases Nat.lt_or_ge j (n * 5) with h1 | h1
    · exact h1
    · rw [List.getElem?_eq_none (by rw [manyC_length hV]; omega)] at h; cases h
  refine ⟨j / 5, j % 5, by omega, by omega, by omega, ?_⟩
  rw [← manyC_get hV X n (j / 5) (j % 5) (by omega) (by omega), show j / 5 * 5 + j % 5 = j by omega]
  exact h
theorem IL.news {w : World} {G : Nat → Prop} {A : Option Addr} {n : Nat} {X : Nat → Ins} (h : IL w G A n X) : (A = none → n = 0) ∧ ∀ a, A = some a → ∀ j u, (manyC insL X n)[j]? = some u → w.cell? (a.add j) = some u := by
  constructor
  · rintro rfl
    rcases Nat.eq_zero_or_pos n with h0 | h0
    · exact h0
    · obtain ⟨_, b, off, e, _⟩ := h.2 0 h0; cases e
  · rintro a rfl j u hj
    obtain ⟨i, r, hi, hr, rfl, hu⟩ := manyC_at insL_len X n j u hj
    obtain ⟨_, b, off, e, _, _, c0, c1, c2, c3, c4⟩ := h.2 i hi
    injection e with e
    subst e
    rw [Go.WideShapes.add_plain, ← Nat.add_assoc]
    match r, hr with
    | 0, _ => exact c0.trans hu
    | 1, _ => exact c1.trans hu
    | 2, _ => exact c2.trans hu
    | 3, _ => exact c3.trans hu
    | 4, _ => exact c4.trans hu
theorem FL.news {w : World} {G : Nat → Prop} {A : Option Addr} {n : Nat} {X : Nat → Fn} (h : FL w G A n X) : (A = none → n = 0) ∧ ∀ a, A = some a → ∀ j u, (manyC fnL X n)[j]? = some u → w.cell? (a.add j) = some u := by
  constructor
  · rintro rfl
    rcases Nat.eq_zero_or_pos n with h0 | h0
    · exact h0
    · obtain ⟨_, _, b, off, e, _⟩ := h.2 0 h0; cases e
  · rintro a rfl j u hj
    obtain ⟨i, r, hi, hr, rfl, hu⟩ := manyC_at fnL_len X n j u hj
    obtain ⟨_, _, b, off, e, _, _, c0, c1, c2, c3, c4⟩ := h.2 i hi
    injection e with e
    subst e
    rw [Go.WideShapes.add_plain, ← Nat.add_assoc]
    match r, hr with
    | 0, _ => exact c0.trans hu
    | 1, _ => exact c1.trans hu
    | 2, _ => exact c2.trans hu
    | 3, _ => exact c3.trans hu
    | 4, _ => exact c4.trans hu
theorem NL.news {w : World} {G : Nat → Prop} {A : Option Addr} {xs : List Int} (h : NL w G A xs) : (A = none → xs.length = 0) ∧ ∀ a, A = some a → ∀ j u, (nums xs)[j]? = some u → w.cell? (a.add j) = some u := by
  constructor
  · rintro rfl
    rcases Nat.eq_zero_or_pos xs.length with h0 | h0
    · exact h0
    · obtain ⟨b, off, e, _⟩ := h.2 0 h0; cases e
  · rintro a rfl j u hj
    have hlt : j < xs.length := by
      rcases Nat.lt_or_ge j xs.length with h1 | h1
      · exact h1
      · rw [List.getElem?_eq_none (by simpa [nums] using h1)] at hj; cases hj
    obtain ⟨b, off, e, _, _, c0⟩ := h.2 j hlt
    injection e with e
    subst e
    rw [Go.WideShapes.add_plain, c0, ← hj, nums_get xs j hlt]
theorem nums_one1 (l : List Int) : ∀ u ∈ nums l, u.oneCell' = true := by
  intro u hu
  obtain ⟨x, _, rfl⟩ := List.mem_map.1 hu
  rfl
theorem Row.il {w : World} {G : Nat → Prop} {v : Value} {n : Nat} {X : Nat → Ins} (h : Row w G 54 5 v n (manyC insL X n)) (hX : ∀ i, i < n → InsIn (X i)) (hn : n ≤ 9223372036854775807) : ∃ A cap, v = .slice A n cap ∧ n ≤ cap ∧ IL w G A n X := by
  obtain ⟨A, cap, rfl, hc⟩ := h.shape
  refine ⟨A, cap, rfl, hc, hn, fun i hi => ?_⟩
  obtain ⟨g, cap', hv, hg, hlt, _⟩ := h.form (by omega)
  injection hv with hA h1 h2
  subst hA
  have k := fun r (hr : r < 5) (u : Value) (hu : (insL (X i))[r]? = some u) => h.cell (i := i * 5 + r) (u := u) (by rw [manyC_get insL_len X n i r hi hr]; exact hu)
  refine ⟨hX i hi, g, 0, rfl, hg, hlt, ?_, ?_, ?_, ?_, ?_⟩
  · rw [Nat.zero_add]; exact k 0 (by decide) _ rfl
  · rw [Nat.zero_add]; exact k 1 (by decide) _ rfl
  · rw [Nat.zero_add]; exact k 2 (by decide) _ rfl
  · rw [Nat.zero_add]; exact k 3 (by decide) _ rfl
  · rw [Nat.zero_add]; exact k 4 (by decide) _ rfl
theorem Row.fl {w : World} {G : Nat → Prop} {v : Value} {n : Nat} {X : Nat → Fn} (h : Row w G 61 5 v n (manyC fnL X n)) (hX : ∀ i, i < n → FnIn (X i) ∧ (X i).name.size ≤ 9223372036854775807) (hn : n ≤ 9223372036854775807) : ∃ A cap, v = .slice A n cap ∧ n ≤ cap ∧ FL w G A n X := by
  obtain ⟨A, cap, rfl, hc⟩ := h.shape
  refine ⟨A, cap, rfl, hc, hn, fun i hi => ?_⟩
  obtain ⟨g, cap', hv, hg, hlt, _⟩ := h.form (by omega)
  injection hv with hA h1 h2
  subst hA
  have k := fun r (hr : r < 5) (u : Value) (hu : (fnL (X i))[r]? = some u) => h.cell (i := i * 5 + r) (u := u) (by rw [manyC_get fnL_len X n i r hi hr]; exact hu)
  refine ⟨(hX i hi).1, (hX i hi).2, g, 0, rfl, hg, hlt, ?_, ?_, ?_, ?_, ?_⟩
  · rw [Nat.zero_add]; exact k 0 (by decide) _ rfl
  · rw [Nat.zero_add]; exact k 1 (by decide) _ rfl
  · rw [Nat.zero_add]; exact k 2 (by decide) _ rfl
  · rw [Nat.zero_add]; exact k 3 (by decide) _ rfl
  · rw [Nat.zero_add]; exact k 4 (by decide) _ rfl
theorem Row.nl {w : World} {G : Nat → Prop} {v : Value} {xs : List Int} (h : Row w G 3 1 v xs.length (nums xs)) (hn : xs.length ≤ 9223372036854775807) : ∃ A cap, v = .slice A xs.length cap ∧ xs.length ≤ cap ∧ NL w G A xs := by
  obtain ⟨A, cap, rfl, hc⟩ := h.shape
  refine ⟨A, cap, rfl, hc, hn, fun i hi => ?_⟩
  obtain ⟨g, cap', hv, hg, hlt, _⟩ := h.form (by omega)
  injection hv with hA h1 h2
  subst hA
  exact ⟨g, 0, rfl, hg, hlt, by rw [Nat.zero_add]; exact h.cell (nums_get xs i hi)⟩
/-! ### at the beginning -/
def q00 (xs : List Int) : MQ := { at_ := 0, fr := 0, sz := 0, regs := fun _ => 0, st := fun _ => 0, hp := QH.empty, inp := xs, cl := [], ev := [], fin := 0, kind := 0, val := 0, steps := 0, depth := 0 }
def newQ (K : MK) (xs : List Int) : MQ := if K.sl < (K.Fs K.mn.toNat).frame then (q00 xs).fins 2 7 0 else (q00 xs).begin K K.mn.toNat 0 (-1) (-1)
theorem q00_half (K : MK) (xs : List Int) (h : ∀ x ∈ xs, i64in x) (h0 : 0 ≤ K.hl) : Half K (q00 xs) :=
  ⟨fun _ => in_0, fun _ => in_0, h, (fun j v hv => by cases hv), QH.Ok.empty, h0, (fun e he => by cases he), Nat.zero_le _⟩
theorem newQ_good {K : MK} (s : Sound K) (xs : List Int) (h : ∀ x ∈ xs, i64in x) : Good K (newQ K xs) := by
  have H := q00_half K xs h s.h0
  unfold newQ
  split
  · exact H.fins (by decide)
  · rename_i hs
    have hm : InFn K K.mn := ⟨s.code.2.2.1, s.code.2.2.2.1⟩
    have om := s.one hm
    have hN : ((K.mn.toNat : Nat) : Int) = K.mn := by have := hm.1; omega
    refine Half.good ⟨H.regs, fun j => ?_, H.inp, H.hv, H.hok, H.htk, H.ev, H.evn⟩ fun _ => ⟨?_, ?_, ?_⟩
    · show i64in (sset (sset (fun _ => (0 : Int)) 0 (-1)) (0 + 1) (-1) j)
      unfold sset
      split
      · exact ⟨by decide, by decide⟩
      split
      · exact ⟨by decide, by decide⟩
      · exact in_0
    · show Chain K _ [((K.mn.toNat : Nat) : Int)] 0
      rw [hN]
      exact ⟨hm, rfl, by omega⟩
    · show (K.Fs K.mn.toNat).frame = (K.Fs ((([] : List Int) ++ [((K.mn.toNat : Nat) : Int)]).getLastD 0).toNat).frame
      rw [hN]
      rfl
    · show InF K ((([] : List Int) ++ [((K.mn.toNat : Nat) : Int)]).getLastD 0) (K.Fs K.mn.toNat).first
      rw [hN]
      have := om.2.1
      exact ⟨Int.le_refl _, by show _ < (K.Fs K.mn.toNat).first + (K.Fs K.mn.toNat).count; omega⟩
theorem newQ_steps (K : MK) (xs : List Int) : (newQ K xs).steps = 0 := by unfold newQ; split <;> rfl
/-- A block of 75 cells is a machine's array. -/
theorem mArr_of {arr : Array Value} (h : arr.size = 75) : mArr (fun k => arr[k]?.getD undef) = arr := by
  apply Array.ext
  · unfold mArr; simp [h]
  · intro k h1 h2
    have hk : k < 75 := by omega
    have e := mArr_get (fun k => arr[k]?.getD undef) hk
    rw [Array.getElem?_eq_getElem h1] at e
    injection e with e
    rw [e, Array.getElem?_eq_getElem h2]
    rfl
end Go.Proofs.Ytkjfbojmkkdgoaa
