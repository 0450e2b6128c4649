/- What a Write answers, as one thing; lists of the call's own as they are read; a store of a whole instruction. -/
import Derived.Test.YtafhjpehkfcmjaaW46
set_option linter.unusedVariables false
set_option linter.unusedSimpArgs false
namespace Go.Proofs.Ytafhjpehkfcmjaa
open Go.RowKit
open Classical in
noncomputable def outL (ni : Nat) (X : Nat → Ins) (nf : Nat) (Fs : Nat → Fn) (m : Int) : List UInt8 := if CodeOk ni X nf Fs m then enc ni X nf Fs m else []
open Classical in
noncomputable def outR (ni : Nat) (X : Nat → Ins) (nf : Nat) (Fs : Nat → Fn) (m : Int) : Int := if CodeOk ni X nf Fs m then 0 else 210
theorem write_one {ni : Nat} {X : Nat → Ins} {nf : Nat} {Fs : Nat → Fn} {m : Int} {w w' : World} {e : Ending} (h : WritePost ni X nf Fs m w e w') : ∃ A cap, e = .returned (.tuple #[.slice A (outL ni X nf Fs m).length cap, .int .i64 (outR ni X nf Fs m)]) ∧
    BR w' w.heap.size (.slice A (outL ni X nf Fs m).length cap) (outL ni X nf Fs m) ∧ Below w.heap.size w w' := by
  obtain ⟨v, r, rfl, hb, ⟨rfl, hok, hv⟩ | ⟨rfl, hn, rfl⟩⟩ := h
  · obtain ⟨A, cap, rfl, _⟩ := own_shape hv
    unfold outL outR
    rw [if_pos hok, if_pos hok]
    exact ⟨A, cap, rfl, hv, hb⟩
  · unfold outL outR
    rw [if_neg hn, if_neg hn]
    exact ⟨none, 0, rfl, BR.nil _ _, hb⟩
theorem IL.part {w : World} {G : Nat → Prop} {A : Option Addr} {n k : Nat} {X Y : Nat → Ins} (h : IL w G A n Y) (hk : k ≤ n) (he : ∀ i, i < k → Y i = X i) : IL w G A k X :=
  ⟨Nat.le_trans hk h.1, fun i hi => by have := h.2 i (by omega); rw [he i hi] at this; exact this⟩
theorem FL.part {w : World} {G : Nat → Prop} {A : Option Addr} {n k : Nat} {X Y : Nat → Fn} (h : FL w G A n Y) (hk : k ≤ n) (he : ∀ i, i < k → Y i = X i) : FL w G A k X :=
  ⟨Nat.le_trans hk h.1, fun i hi => by have := h.2 i (by omega); rw [he i hi] at this; exact this⟩
theorem mem_tabX {X : Nat → Ins} {n : Nat} {x : Ins} (h : x ∈ tabX X n) : ∃ i, i < n ∧ X i = x := by
  obtain ⟨i, hi, e⟩ := List.mem_map.1 h
  exact ⟨i, List.mem_range.1 hi, e⟩
theorem mem_tabF {X : Nat → Fn} {n : Nat} {x : Fn} (h : x ∈ tabF X n) : ∃ i, i < n ∧ X i = x := by
  obtain ⟨i, hi, e⟩ := List.mem_map.1 h
  exact ⟨i, List.mem_range.1 hi, e⟩
theorem IR.part {w : World} {H n k cap : Nat} {A : Option Addr} {Y X : Nat → Ins} (h : IR w H (.slice A n cap) (tabX Y n)) (hx : ∀ i, i < n → InsIn (Y i)) (hn : n ≤ 9223372036854775807) (hk : k ≤ n) (he : ∀ i, i < k → Y i = X i) : IL w (fun b => H ≤ b) A k X := by
  have h1 := h.il (fun x hx' => by obtain ⟨i, hi, rfl⟩ := mem_tabX hx'; exact hx i hi) (by rw [tabX_length]; exact hn)
  rw [tabX_length] at h1
  exact h1.part hk fun i hi => by rw [insF_tab Y (by omega)]; exact he i hi
theorem FR.part {w : World} {H n k cap : Nat} {A : Option Addr} {Y X : Nat → Fn} (h : FR w H (.slice A n cap) (tabF Y n)) (hx : ∀ i, i < n → FnIn (Y i) ∧ (Y i).name.size ≤ 9223372036854775807) (hn : n ≤ 9223372036854775807) (hk : k ≤ n) (he : ∀ i, i < k → Y i = X i) : FL w (fun b => H ≤ b) A k X := by
  have h1 := h.fl (fun x hx' => by obtain ⟨i, hi, rfl⟩ := mem_tabF hx'; exact hx i hi) (by rw [tabF_length]; exact hn)
  rw [tabF_length] at h1
  exact h1.part hk fun i hi => by rw [fnF_tab Y (by omega)]; exact he i hi
def updX (X : Nat → Ins) (k : Nat) (x : Ins) (i : Nat) : Ins := if i = k then x else X i
def updF (X : Nat → Fn) (k : Nat) (x : Fn) (i : Nat) : Fn := if i = k then x else X i
theorem tabX_push (X : Nat → Ins) (n : Nat) (x : Ins) : tabX X n ++ [x] = tabX (updX X n x) (n + 1) := by
  rw [tabX_succ]
  congr 1
  · refine List.map_congr_left fun i hi => ?_
    have := List.mem_range.1 hi
    rw [updX, if_neg (by omega)]
  · rw [updX, if_pos rfl]
theorem tabF_push (X : Nat → Fn) (n : Nat) (x : Fn) : tabF X n ++ [x] = tabF (updF X n x) (n + 1) := by
  rw [tabF_succ]
  congr 1
  · refine List.map_congr_left fun i hi => ?_
    have := List.mem_range.1 hi
    rw [updF, if_neg (by omega)]
  · rw [updF, if_pos rfl]
theorem insCells_set (X : Nat → Ins) (n k : Nat) (x : Ins) (hk : k < n) : (((((insCells (tabX X n)).set (k * 5) (.int .i64 x.op)).set (k * 5 + 1) (.int .i64 x.a)).set (k * 5 + 2) (.int .i64 x.b)).set (k * 5 + 3) (.int .i64 x.c)).set (k * 5 + 4) (.int .i64 x.n) = insCells (tabX (updX X k x) n) := by
  have hl : ∀ Y, (insCells (tabX Y n)).length = n * 5 := fun Y => by rw [insCells_length, tabX_length]
  refine List.ext_getElem? fun j => ?_
  rcases Nat.lt_or_ge j (n * 5) with hj | hj
  · obtain ⟨i, t, ht, rfl⟩ := five j
    have hi : i < n := by omega
    obtain ⟨k0, k1, k2, k3, k4⟩ := insCells_get (tabX X n) i (by rw [tabX_length]; exact hi)
    obtain ⟨m0, m1, m2, m3, m4⟩ := insCells_get (tabX (updX X k x) n) i (by rw [tabX_length]; exact hi)
    rw [insF_tab _ hi] at k0 k1 k2 k3 k4 m0 m1 m2 m3 m4
    have ht5 : t = 0 ∨ t = 1 ∨ t = 2 ∨ t = 3 ∨ t = 4 := by omega
    by_cases e : i = k
    · subst e
      rw [updX, if_pos rfl] at m0 m1 m2 m3 m4
      rcases ht5 with rfl | rfl | rfl | rfl | rfl
      · simp only [Nat.add_zero]; rw [m0]
        rw [List.getElem?_set_ne (by omega), List.getElem?_set_ne (by omega), List.getElem?_set_ne (by omega), List.getElem?_set_ne (by omega), List.getElem?_set_self (by rw [hl]; omega)]
      · rw [m1]
        rw [List.getElem?_set_ne (by omega), List.getElem?_set_ne (by omega), List.getElem?_set_ne (by omega), List.getElem?_set_self (by simp only [List.length_set, hl]; omega)]
      · rw [m2]
        rw [List.getElem?_set_ne (by omega), List.getElem?_set_ne (by omega), List.getElem?_set_self (by simp only [List.length_set, hl]; omega)]
      · rw [m3]
        rw [List.getElem?_set_ne (by omega), List.getElem?_set_self (by simp only [List.length_set, hl]; omega)]
      · rw [m4]
        rw [List.getElem?_set_self (by simp only [List.length_set, hl]; omega)]
    · rw [updX, if_neg e] at m0 m1 m2 m3 m4
      rw [List.getElem?_set_ne (by omega), List.getElem?_set_ne (by omega), List.getElem?_set_ne (by omega), List.getElem?_set_ne (by omega), List.getElem?_set_ne (by omega)]
      rcases ht5 with rfl | rfl | rfl | rfl | rfl
      · simp only [Nat.add_zero]; rw [k0, m0]
      · rw [k1, m1]
      · rw [k2, m2]
      · rw [k3, m3]
      · rw [k4, m4]
  · rw [List.getElem?_eq_none (by simp only [List.length_set, hl]; exact hj), List.getElem?_eq_none (by rw [hl]; exact hj)]
/-- The five stores of an instruction. -/
def putI (w : World) (g k : Nat) (x : Ins) : World := ((((w.setCell ⟨g, k * 5, none⟩ (.int .i64 x.op)).setCell ⟨g, k * 5 + 1, none⟩ (.int .i64 x.a)).setCell ⟨g, k * 5 + 2, none⟩ (.int .i64 x.b)).setCell ⟨g, k * 5 + 3, none⟩ (.int .i64 x.c)).setCell ⟨g, k * 5 + 4, none⟩ (.int .i64 x.n)
theorem IR.put {w : World} {H n cap g k : Nat} {X : Nat → Ins} {x : Ins} (h : IR w H (.slice (some ⟨g, 0, none⟩) n cap) (tabX X n)) (hk : k < n) : IR (putI w g k x) H (.slice (some ⟨g, 0, none⟩) n cap) (tabX (updX X k x) n) := by
  unfold IR at h ⊢
  rw [tabX_length] at h ⊢
  rw [← insCells_set X n k x hk]
  exact (World.ownsRow.stored (World.ownsRow.stored (World.ownsRow.stored (World.ownsRow.stored (World.ownsRow.stored h _ _).1 _ _).1 _ _).1 _ _).1 _ _).1
theorem putI_only (w : World) (g k : Nat) (x : Ins) : Only (fun b => b = g) w (putI w g k x) :=
  (((((Only.refl (fun b => b = g) w).setCell (.inl rfl) _).setCell (.inl rfl) _).setCell (.inl rfl) _).setCell (.inl rfl) _).setCell (.inl rfl) _
theorem CB.up {w wr w2 : World} {G : Nat → Prop} {A B : Option Addr} {ni ci nf cf : Nat} {X : Nat → Ins} {Fs : Nat → Fn} {m : Int} (h : CB w wr G A ni ci X B nf cf Fs m) (hG : ∀ b, G b → b < w.heap.size) (o : Only (fun b => w.heap.size < b) wr w2) : CB w w2 G A ni ci X B nf cf Fs m :=
  ⟨h.b1.only o (by omega), h.il.only o (fun b _ hb e => by have := hG b hb; omega), h.fl.only o (fun b _ hb e => by have := hG b hb; omega), h.below.trans (o.toBelow h.below.size (fun k hk e => by omega))⟩
end Go.Proofs.Ytafhjpehkfcmjaa
