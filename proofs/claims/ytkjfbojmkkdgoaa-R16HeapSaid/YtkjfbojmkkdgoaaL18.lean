/- R16Heap: the lists that it grows, in memory. -/
import Derived.Test.YtkjfbojmkkdgoaaL4
import Derived.Test.YtkjfbojmkkdgoaaP5
import Derived.Test.YtkjfbojmkkdgoaaAp
set_option linter.unusedVariables false
set_option linter.unusedSimpArgs false
namespace Go.Proofs.Ytkjfbojmkkdgoaa
open Go.RowKit
theorem manyC_flat {α : Type} (V : α → List Value) (X : Nat → α) : ∀ n, manyC V X n = ((List.range n).map X).flatMap V
  | 0 => rfl
  | n + 1 => by rw [manyC, manyC_flat V X n, List.range_succ, List.map_append, List.flatMap_append]; simp
theorem insOf_map (l : List Ins) : (List.range l.length).map (insOf l) = l := by
  apply List.ext_getElem?
  intro i
  rw [List.getElem?_map]
  by_cases h : i < l.length
  · rw [List.getElem?_range h]
    show some (l.getD i _) = _
    rw [List.getD_eq_getElem?_getD, List.getElem?_eq_getElem h]
    rfl
  · rw [List.getElem?_eq_none (by simp; omega), List.getElem?_eq_none (by omega)]
    rfl
def insC (l : List Ins) : List Value := l.flatMap insL
theorem insC_many (l : List Ins) : manyC insL (insOf l) l.length = insC l := by rw [manyC_flat, insOf_map]; rfl
theorem insC_app (a b : List Ins) : insC a ++ insC b = insC (a ++ b) := (List.flatMap_append ..).symm
theorem insC_one (l : List Ins) : ∀ u ∈ insC l, u.oneCell' = true := by rw [← insC_many]; exact manyC_one insL_one _ _
theorem insC_length (l : List Ins) : (insC l).length = l.length * 5 := by rw [← insC_many, manyC_length insL_len]
theorem nums_app (a b : List Int) : nums a ++ nums b = nums (a ++ b) := by unfold nums; exact List.map_append.symm
theorem nums_len (a : List Int) : (nums a).length = a.length * 1 := by unfold nums; simp
/-- Instructions and what is wanted, in rows of their own. -/
def HP (w wx : World) (v5 v6 : Value) (ins : List Ins) (want : List Int) : Prop :=
  ∃ F5 F6 : Nat → Prop, Row wx F5 54 5 v5 ins.length (insC ins) ∧ Row wx F6 3 1 v6 want.length (nums want) ∧ (∀ b, F5 b → F6 b → False) ∧ (∀ b, F5 b ∨ F6 b → w.heap.size ≤ b ∧ b < wx.heap.size) ∧ Only (fun _ => False) w wx
theorem HP.start (w : World) : HP w w (.slice none 0 0) (.slice none 0 0) [] [] := ⟨fun _ => False, fun _ => False, Row.nil_ _ _ _ _, Row.nil_ _ _ _ _, fun _ h => h.elim, fun _ h => h.elim False.elim False.elim, Only.refl _ _⟩
section
variable {w wx wy : World} {v5 v6 : Value} {ins : List Ins} {want : List Int}
theorem HP.quiet (h : HP w wx v5 v6 ins want) (o : Only (fun _ => False) wx wy) : HP w wy v5 v6 ins want := by
  obtain ⟨F5, F6, r5, r6, dj, lo, on⟩ := h
  have := o.size
  exact ⟨F5, F6, r5.tr o (fun _ _ h => ⟨fun h => h, h⟩), r6.tr o (fun _ _ h => ⟨fun h => h, h⟩), dj, fun b hb => ⟨(lo b hb).1, by have := (lo b hb).2; omega⟩, on.trans o fun _ _ h => h⟩
theorem HP.quiet_cell (h : HP w wx v5 v6 ins want) {b : Nat} (hb : b < w.heap.size) (o : Nat) : wx.cell? ⟨b, o, none⟩ = w.cell? ⟨b, o, none⟩ := by
  obtain ⟨F5, F6, r5, r6, dj, lo, on⟩ := h
  exact on.cell hb (fun h => h)
theorem HP.app5 (h : HP w wx v5 v6 ins want) : ∃ F5 : Nat → Prop, (∀ o, Row (wx.alloc o) F5 54 5 v5 ins.length (insC ins)) ∧
    ∀ o A c w' (ins' : List Ins) n, n = ins'.length → Row w' (fun b => F5 b ∨ (wx.alloc o).heap.size ≤ b) 54 5 (.slice A n c) n (insC ins') → Only F5 (wx.alloc o) w' → HP w w' (.slice A n c) v6 ins' want := by
  obtain ⟨F5, F6, r5, r6, dj, lo, on⟩ := h
  refine ⟨F5, fun o => r5.tr ((Only.refl (fun _ => False) wx).alloc o) (fun _ _ h => ⟨fun h => h, h⟩), fun o A c w' ins' n hn r ho => ?_⟩
  subst hn
  have hs : (wx.alloc o).heap.size = wx.heap.size + 1 := by simp
  have h2 := ho.size
  have oa : Only F5 wx (wx.alloc o) := (Only.refl F5 wx).alloc o
  have ow : Only F5 wx w' := oa.then_ ho
  refine ⟨fun b => (F5 b ∨ (wx.alloc o).heap.size ≤ b) ∧ b < w'.heap.size, F6, r.mono fun b hb h => ⟨h, hb⟩, r6.only ow fun b hb h => dj b h (r6.2 b hb), fun b h1 h3 => ?_, fun b hb => ?_, on.trans ow fun b h1 h3 => by have := (lo b (.inl h3)).1; omega⟩
  · rcases h1.1 with h1 | h1
    · exact dj b h1 h3
    · have := (lo b (.inr h3)).2; omega
  · rcases hb with ⟨hb | hb, h4⟩ | hb
    · exact ⟨(lo b (.inl hb)).1, h4⟩
    · have := on.size; exact ⟨by omega, h4⟩
    · have := lo b (.inr hb); exact ⟨this.1, by omega⟩
theorem HP.app6 (h : HP w wx v5 v6 ins want) : ∃ F6 : Nat → Prop, (∀ o, Row (wx.alloc o) F6 3 1 v6 want.length (nums want)) ∧
    ∀ o A c w' (want' : List Int) n, n = want'.length → Row w' (fun b => F6 b ∨ (wx.alloc o).heap.size ≤ b) 3 1 (.slice A n c) n (nums want') → Only F6 (wx.alloc o) w' → HP w w' v5 (.slice A n c) ins want' := by
  obtain ⟨F5, F6, r5, r6, dj, lo, on⟩ := h
  refine ⟨F6, fun o => r6.tr ((Only.refl (fun _ => False) wx).alloc o) (fun _ _ h => ⟨fun h => h, h⟩), fun o A c w' want' n hn r ho => ?_⟩
  subst hn
  have hs : (wx.alloc o).heap.size = wx.heap.size + 1 := by simp
  have h2 := ho.size
  have ow : Only F6 wx w' := ((Only.refl F6 wx).alloc o).then_ ho
  refine ⟨F5, fun b => (F6 b ∨ (wx.alloc o).heap.size ≤ b) ∧ b < w'.heap.size, r5.only ow fun b hb h => dj b (r5.2 b hb) h, r.mono fun b hb h => ⟨h, hb⟩, fun b h3 h1 => ?_, fun b hb => ?_, on.trans ow fun b h1 h3 => by have := (lo b (.inr h3)).1; omega⟩
  · rcases h1.1 with h1 | h1
    · exact dj b h3 h1
    · have := (lo b (.inl h3)).2; omega
  · rcases hb with hb | ⟨hb | hb, h4⟩
    · have := lo b (.inl hb); exact ⟨this.1, by omega⟩
    · exact ⟨(lo b (.inr hb)).1, h4⟩
    · have := on.size; exact ⟨by omega, h4⟩
end
/-! ### the code is code -/
def hokI (i : Ins) : Prop := InsIn i ∧ ∀ f : Fn, insOk 1 f i = true
theorem hok_part (n : Int) (hn : i64in n) : ∀ i ∈ hpart n, hokI i := by
  have h0 := in_0
  have k : ∀ x : Int, 0 ≤ x → x ≤ 40 → i64in x := fun x a b => ⟨by omega, by omega⟩
  intro i hi
  simp only [hpart, List.mem_cons, List.not_mem_nil, or_false] at hi
  rcases hi with rfl | rfl
  · exact ⟨⟨in_1, k 2 (by decide) (by decide), h0, h0, hn⟩, fun f => by kernel_rfl⟩
  · exact ⟨⟨k 28 (by decide) (by decide), k 3 (by decide) (by decide), k 2 (by decide) (by decide), h0, h0⟩, fun f => by kernel_rfl⟩
theorem hok_rest : ∀ i ∈ hrest, hokI i := by
  have h0 := in_0
  have k : ∀ x : Int, 0 ≤ x → x ≤ 40 → i64in x := fun x a b => ⟨by omega, by omega⟩
  intro i hi
  simp only [hrest, List.mem_cons, List.not_mem_nil, or_false] at hi
  rcases hi with rfl | rfl | rfl
  · exact ⟨⟨k 37 (by decide) (by decide), k 3 (by decide) (by decide), h0, h0, h0⟩, fun f => by kernel_rfl⟩
  · exact ⟨⟨k 29 (by decide) (by decide), k 4 (by decide) (by decide), k 3 (by decide) (by decide), h0, h0⟩, fun f => by kernel_rfl⟩
  · exact ⟨⟨k 37 (by decide) (by decide), k 4 (by decide) (by decide), h0, h0, h0⟩, fun f => by kernel_rfl⟩
theorem hok_word (n : Int) (hn : i64in (n - 1)) : ∀ i ∈ hword n, hokI i := by
  have h0 := in_0
  have k : ∀ x : Int, 0 ≤ x → x ≤ 40 → i64in x := fun x a b => ⟨by omega, by omega⟩
  intro i hi
  simp only [hword, List.mem_cons, List.not_mem_nil, or_false] at hi
  rcases hi with rfl | rfl | rfl | rfl | rfl | rfl
  · exact ⟨⟨in_1, k 5 (by decide) (by decide), h0, h0, hn⟩, fun f => by kernel_rfl⟩
  · exact ⟨⟨k 30 (by decide) (by decide), k 6 (by decide) (by decide), k 3 (by decide) (by decide), k 5 (by decide) (by decide), h0⟩, fun f => by kernel_rfl⟩
  · exact ⟨⟨k 37 (by decide) (by decide), k 6 (by decide) (by decide), h0, h0, h0⟩, fun f => by kernel_rfl⟩
  · exact ⟨⟨k 31 (by decide) (by decide), k 2 (by decide) (by decide), k 3 (by decide) (by decide), k 5 (by decide) (by decide), h0⟩, fun f => by kernel_rfl⟩
  · exact ⟨⟨k 30 (by decide) (by decide), k 6 (by decide) (by decide), k 3 (by decide) (by decide), k 5 (by decide) (by decide), h0⟩, fun f => by kernel_rfl⟩
  · exact ⟨⟨k 37 (by decide) (by decide), k 6 (by decide) (by decide), h0, h0, h0⟩, fun f => by kernel_rfl⟩
theorem hok_all (n : Int) (hn : 0 ≤ n ∧ n ≤ 16383) : ∀ i ∈ hall n, hokI i := by
  intro i hi
  unfold hall at hi
  simp only [List.mem_append] at hi
  rcases hi with (hi | hi) | hi
  · exact hok_part n ⟨by omega, by omega⟩ i hi
  · exact hok_rest i hi
  · split at hi
    · exact hok_word n ⟨by omega, by omega⟩ i hi
    · cases hi
/-- What holds of every state. -/
structure HB (s : HG) (i : Nat) : Prop where
  ok : ∀ x ∈ s.ins, hokI x
  il : s.ins.length ≤ 11 * i
  wl : s.want.length ≤ 4 * i
  n0 : 1 ≤ s.next
  n1 : s.next ≤ 1 + 16384 * i
  wi : ∀ x ∈ s.want, i64in x
theorem HB.step {s : HG} {i : Nat} (h : HB s i) (H n : Int) (hn : 0 ≤ n ∧ n ≤ 16383) (hi : i ≤ 1000) : HB (hstep H s n) (i + 1) := by
  obtain ⟨h1, h2, h3, h4, h5, h6⟩ := h
  have hl := hall_length n
  unfold hstep
  split
  · refine ⟨fun x hx => ?_, ?_, by show s.want.length ≤ _; omega, h4, by show s.next ≤ _; omega, h6⟩
    · rcases List.mem_append.1 hx with hx | hx
      · exact h1 x hx
      · exact hok_part n ⟨by omega, by omega⟩ x hx
    · show (s.ins ++ hpart n).length ≤ _
      rw [List.length_append, show (hpart n).length = 2 from rfl]; omega
  · refine ⟨fun x hx => ?_, ?_, ?_, by show 1 ≤ s.next + n + 1; omega, by show s.next + n + 1 ≤ _; omega, fun x hx => ?_⟩
    · rcases List.mem_append.1 hx with hx | hx
      · exact h1 x hx
      · exact hok_all n hn x hx
    · show (s.ins ++ hall n).length ≤ _
      rw [List.length_append]; omega
    · show (s.want ++ hwant s.next n).length ≤ _
      unfold hwant
      split <;> simp <;> omega
    · rcases List.mem_append.1 hx with hx | hx
      · exact h6 x hx
      · unfold hwant at hx
        have : x = s.next ∨ x = n ∨ x = 0 := by
          split at hx <;> simp at hx <;> omega
        rcases this with rfl | rfl | rfl
        · exact ⟨by omega, by omega⟩
        · exact ⟨by omega, by omega⟩
        · exact in_0
theorem HB.runs (H : Int) : ∀ (l : List Int) (s : HG) (i : Nat), HB s i → (∀ n ∈ l, 0 ≤ n ∧ n ≤ 16383) → i + l.length ≤ 1000 → HB (hruns H l s) (i + l.length)
  | [], s, i, h, _, _ => h
  | n :: r, s, i, h, hn, hi => by
    simp only [List.length_cons] at hi ⊢
    unfold hruns
    split
    · exact ⟨h.ok, by have := h.il; omega, by have := h.wl; omega, h.n0, by have := h.n1; omega, h.wi⟩
    · have := HB.runs H r _ (i + 1) (h.step H n (hn n (List.mem_cons_self ..)) (by omega)) (fun x hx => hn x (List.mem_cons_of_mem _ hx)) (by omega)
      rwa [show i + 1 + r.length = i + (r.length + 1) by omega] at this
theorem HB.zero : HB ⟨[], [], 1, false⟩ 0 := ⟨(fun x hx => by cases hx), (by decide : (0 : Nat) ≤ 0), (by decide : (0 : Nat) ≤ 0), (by decide : (1 : Int) ≤ 1), (by decide : (1 : Int) ≤ 1), (fun x hx => by cases hx)⟩
theorem hret_ok : hokI (⟨27, 0, 0, 0, 0⟩ : Ins) := ⟨⟨⟨by decide, by decide⟩, in_0, in_0, in_0, in_0⟩, fun f => by kernel_rfl⟩
theorem heap_code {s : HG} {i : Nat} (h : HB s i) : CodeOk (s.ins ++ [(⟨27, 0, 0, 0, 0⟩ : Ins)]).length (insOf (s.ins ++ [⟨27, 0, 0, 0, 0⟩])) 1 (mainF 2 (s.ins ++ [(⟨27, 0, 0, 0, 0⟩ : Ins)]).length) 0 := by
  have hall : ∀ x ∈ s.ins ++ [(⟨27, 0, 0, 0, 0⟩ : Ins)], hokI x := fun x hx => by
    rcases List.mem_append.1 hx with hx | hx
    · exact h.ok x hx
    · rw [List.mem_singleton.1 hx]; exact hret_ok
  refine code_one _ 2 (by decide) (by decide) (by rw [List.length_append]; exact Nat.le_add_left _ _) (fun j hj => ?_) ?_
  · refine (hall _ ?_).2 _
    unfold insOf
    rw [List.getD_eq_getElem?_getD, List.getElem?_eq_getElem hj]
    exact List.getElem_mem hj
  · unfold insOf
    rw [List.length_append, show ([(⟨27, 0, 0, 0, 0⟩ : Ins)]).length = 1 from rfl, Nat.add_sub_cancel, List.getD_eq_getElem?_getD, List.getElem?_append_right (Nat.le_refl _), Nat.sub_self]
    rfl
theorem heap_in {s : HG} {i : Nat} (h : HB s i) : ∀ j, j < (s.ins ++ [(⟨27, 0, 0, 0, 0⟩ : Ins)]).length → InsIn (insOf (s.ins ++ [⟨27, 0, 0, 0, 0⟩]) j) := fun j hj => by
  have hall : ∀ x ∈ s.ins ++ [(⟨27, 0, 0, 0, 0⟩ : Ins)], hokI x := fun x hx => by
    rcases List.mem_append.1 hx with hx | hx
    · exact h.ok x hx
    · rw [List.mem_singleton.1 hx]; exact hret_ok
  refine (hall _ ?_).1
  unfold insOf
  rw [List.getD_eq_getElem?_getD, List.getElem?_eq_getElem hj]
  exact List.getElem_mem hj
def heapK (l : List Ins) (h : Int) : MK := { ni := l.length, X := insOf l, nf := 1, Fs := mainF 2 l.length, mn := 0, sl := 2, hl := h }
/-- The run of it all. -/
theorem heap_ends (h : Int) (h1 : h ≤ 1099511627776) (ns : List Int) (hn : ∀ n ∈ ns, 0 ≤ n ∧ n ≤ 16383) (hl : ns.length ≤ 300) (s : HG) (hs : hruns h ns ⟨[], [], 1, false⟩ = s) :
    HEnd (runN (heapK (s.ins ++ [⟨27, 0, 0, 0, 0⟩]) h) (s.ins.length + 2) (newQ (heapK (s.ins ++ [⟨27, 0, 0, 0, 0⟩]) h) [])) s := by
  have e : newQ (heapK (s.ins ++ [⟨27, 0, 0, 0, 0⟩]) h) [] = (q00 []).begin (heapK (s.ins ++ [⟨27, 0, 0, 0, 0⟩]) h) 0 0 (-1) (-1) := if_neg (show ¬ (2 : Int) < 2 by decide)
  have hq : HQ (newQ (heapK (s.ins ++ [⟨27, 0, 0, 0, 0⟩]) h) []) 0 0 (evOf []) (1 - 1) := by
    rw [e]
    exact ⟨rfl, rfl, rfl, rfl, rfl, QH.Ok.empty, fun _ _ => rfl, rfl⟩
  have st : StandsAt (heapK (s.ins ++ [⟨27, 0, 0, 0, 0⟩]) h) 0 (s.ins ++ [⟨27, 0, 0, 0, 0⟩]) := fun j i hj => by
    show insOf (s.ins ++ [⟨27, 0, 0, 0, 0⟩]) (0 + j) = i
    unfold insOf
    rw [Nat.zero_add, List.getD_eq_getElem?_getD, hj]
    rfl
  obtain ⟨q', h2, h3⟩ := heap_run (K := heapK (s.ins ++ [⟨27, 0, 0, 0, 0⟩]) h) h1 ns ⟨[], [], 1, false⟩ _ (fun n hx => (hn n hx).1) rfl (by show StandsAt _ 0 ((hruns h ns _).ins ++ _); rw [hs]; exact st) hq (by show 0 + 4 * ns.length < 900000; omega)
  have h4 := h2 0
  have e2 : hruns (heapK (s.ins ++ [⟨27, 0, 0, 0, 0⟩]) h).hl ns ⟨[], [], 1, false⟩ = s := hs
  rw [e2] at h4 h3
  have h5 : runN (heapK (s.ins ++ [⟨27, 0, 0, 0, 0⟩]) h) (s.ins.length + 2) (newQ (heapK (s.ins ++ [⟨27, 0, 0, 0, 0⟩]) h) []) = q' := h4
  rw [h5]
  exact h3
end Go.Proofs.Ytkjfbojmkkdgoaa
