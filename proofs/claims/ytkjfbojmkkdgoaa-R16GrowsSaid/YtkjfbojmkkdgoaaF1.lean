/- Parts of memory, side by side: each in blocks of its own, told by a label. -/
import Derived.Test.YtkjfbojmkkdgoaaL14
set_option linter.unusedVariables false
set_option linter.unusedSimpArgs false
namespace Go.Proofs.Ytkjfbojmkkdgoaa
open Go.RowKit
/-- What lies in memory, in these blocks. -/
abbrev Thing := World → (Nat → Prop) → Prop
def Part (M : Thing) : Prop := ∀ (w w' : World) (U U' V : Nat → Prop), M w U → Only V w w' → (∀ b, b < w.heap.size → U b → ¬ V b ∧ U' b) → M w' U'
structure Fam (w : World) (z : Nat → Nat) (l : List Thing) : Prop where
  part : ∀ (i : Nat) (M : Thing), l[i]? = some M → Part M
  at_ : ∀ (i : Nat) (M : Thing), l[i]? = some M → M w (fun b => z b = i)
section
variable {w w' : World} {z : Nat → Nat} {l : List Thing}
theorem Fam.zero (w : World) : Fam w (fun _ => 0) [] := ⟨(fun i M h => by cases i <;> cases h), (fun i M h => by cases i <;> cases h)⟩
theorem Fam.quiet (h : Fam w z l) (o : Only (fun _ => False) w w') : Fam w' z l := ⟨h.part, fun i M hi => h.part i M hi w w' _ _ _ (h.at_ i M hi) o fun _ _ e => ⟨fun h => h, e⟩⟩
/-- A new one, in new blocks. -/
theorem Fam.add (h : Fam w z l) (o : Only (fun _ => False) w w') {N : Thing} (hN : Part N) (n : N w' fun b => w.heap.size ≤ b) : Fam w' (nz z w.heap.size l.length) (l ++ [N]) := by
  refine ⟨fun i M hi => ?_, fun i M hi => ?_⟩
  · by_cases hl : i < l.length
    · rw [List.getElem?_append_left hl] at hi; exact h.part i M hi
    · rw [List.getElem?_append_right (by omega)] at hi
      cases hk : i - l.length with
      | zero => rw [hk] at hi; cases hi; exact hN
      | succ k => rw [hk] at hi; cases hi
  · by_cases hl : i < l.length
    · rw [List.getElem?_append_left hl] at hi
      exact h.part i M hi w w' _ _ _ (h.at_ i M hi) o fun b hb e => ⟨fun h => h, by rw [nz_lt z hb]; exact e⟩
    · rw [List.getElem?_append_right (by omega)] at hi
      cases hk : i - l.length with
      | zero =>
        rw [hk] at hi; cases hi
        have : i = l.length := by omega
        subst this
        exact hN w' w' _ _ _ n (Only.refl (fun _ => False) w') fun b hb e => ⟨fun h => h, nz_ge z e _⟩
      | succ k => rw [hk] at hi; cases hi
/-- One of them turns; what it makes beside is new. -/
def tz (z : Nat → Nat) (s i n : Nat) (e : Option Nat) : Nat → Nat := fun b => if b < s then z b else if e = some b then n else i
theorem Fam.turn (h : Fam w z l) (i : Nat) (hi : i < l.length) (e : Option Nat) {M' N : Thing} (hM : Part M') (hN : Part N) (o : Only (fun b => nz z w.heap.size i b = i) w w') (m : M' w' fun b => nz z w.heap.size i b = i ∧ e ≠ some b) (n : N w' fun b => w.heap.size ≤ b ∧ e = some b) :
    Fam w' (tz z w.heap.size i l.length e) (l.set i M' ++ [N]) := by
  have hle : (l.set i M').length = l.length := List.length_set
  refine ⟨fun j M hj => ?_, fun j M hj => ?_⟩
  · by_cases hl : j < l.length
    · rw [List.getElem?_append_left (by omega), List.getElem?_set] at hj
      split at hj
      · cases hj; exact hM
      · exact h.part j M hj
    · rw [List.getElem?_append_right (by omega), hle] at hj
      cases hk : j - l.length with
      | zero => rw [hk] at hj; cases hj; exact hN
      | succ k => rw [hk] at hj; cases hj
  · by_cases hl : j < l.length
    · rw [List.getElem?_append_left (by omega), List.getElem?_set] at hj
      split at hj
      · rename_i hij
        subst hij
        cases hj
        exact hM w' w' _ _ _ m (Only.refl (fun _ => False) w') fun b hb hz => ⟨fun h => h, by
          unfold tz
          by_cases hs : b < w.heap.size
          · rw [if_pos hs]; have := hz.1; rwa [nz_lt z hs] at this
          · rw [if_neg hs, if_neg hz.2]⟩
      · rename_i hij
        exact h.part j M hj w w' _ _ _ (h.at_ j M hj) o fun b hb hz => ⟨by rw [nz_lt z hb]; omega, by unfold tz; rw [if_pos hb]; exact hz⟩
    · rw [List.getElem?_append_right (by omega), hle] at hj
      cases hk : j - l.length with
      | zero =>
        rw [hk] at hj; cases hj
        have : j = l.length := by omega
        subst this
        exact hN w' w' _ _ _ n (Only.refl (fun _ => False) w') fun b hb hz => ⟨fun h => h, by unfold tz; rw [if_neg (by have := hz.1; omega), if_pos hz.2]⟩
      | succ k => rw [hk] at hj; cases hj
/-- One of them turns. -/
theorem Fam.move (h : Fam w z l) (i : Nat) (hi : i < l.length) {M' : Thing} (hM : Part M') (o : Only (fun b => nz z w.heap.size i b = i) w w') (m : M' w' fun b => nz z w.heap.size i b = i) : Fam w' (nz z w.heap.size i) (l.set i M') := by
  refine ⟨fun j M hj => ?_, fun j M hj => ?_⟩
  · rw [List.getElem?_set] at hj
    split at hj
    · cases hj; exact hM
    · exact h.part j M hj
  · rw [List.getElem?_set] at hj
    split at hj
    · rename_i hij
      subst hij
      cases hj
      exact m
    · rename_i hij
      exact h.part j M hj w w' _ _ _ (h.at_ j M hj) o fun b hb hz => ⟨by rw [nz_lt z hb]; omega, by rw [nz_lt z hb]; exact hz⟩
end
/-! ### what parts there are -/
def TM (g : Nat) (K : MK) (q : MQ) : Thing := fun w U => MO w U g K q
def TR (v : Value) (n : Nat) (xs : List (Int × Int)) : Thing := fun w U => Row w U 50 2 v n (evs xs)
def TB (g : Nat) (t : TypeId) (cs : Array Value) : Thing := fun w U => Blk w g t cs ∧ U g
def TC (A : Option Addr) (ni ci : Nat) (X : Nat → Ins) (B : Option Addr) (nf cf : Nat) (Fs : Nat → Fn) (m : Int) (NA : Option Addr) (xs : List Int) (nc : Nat) : Thing := fun w U => CA w U A ni ci X B nf cf Fs m NA xs nc
theorem part_m (g : Nat) (K : MK) (q : MQ) : Part (TM g K q) := fun w w' U U' V h o hd =>
  ((MO.more h (D := fun b => U b ∧ b < w.heap.size) fun b hb hu => ⟨hu, hb⟩).keep o fun b _ hu => (hd b hu.2 hu.1).1).more fun b _ hu => (hd b hu.2 hu.1).2
theorem part_r (v : Value) (n : Nat) (xs : List (Int × Int)) : Part (TR v n xs) := fun w w' U U' V h o hd => Row.tr h o hd
theorem part_b (g : Nat) (t : TypeId) (cs : Array Value) : Part (TB g t cs) := fun w w' U U' V h o hd => ⟨h.1.only o (hd g h.1.lt h.2).1, (hd g h.1.lt h.2).2⟩
theorem part_c (A : Option Addr) (ni ci : Nat) (X : Nat → Ins) (B : Option Addr) (nf cf : Nat) (Fs : Nat → Fn) (m : Int) (NA : Option Addr) (xs : List Int) (nc : Nat) : Part (TC A ni ci X B nf cf Fs m NA xs nc) := fun w w' U U' V h o hd => CA.tr h o hd
end Go.Proofs.Ytkjfbojmkkdgoaa
