/- Arguments opened: code, limits, numbers. -/
import Derived.Test.YtkjfbojmkkdgoaaArgs
import Derived.Test.YtkjfbojmkkdgoaaX2
set_option linter.unusedVariables false
set_option linter.unusedSimpArgs false
namespace Go.Proofs.Ytkjfbojmkkdgoaa
open Go.ChangeShapes Go.WideShapes Go.Deep Go.RowKit
section
variable {H : Type} {enc : TypeId × Value → H} {P : Program} {w : World} {base : Nat} {spare : Nat → Bool} {held : Bool}
theorem list5 {α : Type} : ∀ l : List α, l.length = 5 → ∃ a b c d e, l = [a, b, c, d, e]
  | [a, b, c, d, e], _ => ⟨a, b, c, d, e, rfl⟩
theorem list3 {α : Type} : ∀ l : List α, l.length = 3 → ∃ a b c, l = [a, b, c]
  | [a, b, c], _ => ⟨a, b, c, rfl⟩
theorem list2 {α : Type} : ∀ l : List α, l.length = 2 → ∃ a b, l = [a, b]
  | [a, b], _ => ⟨a, b, rfl⟩
instance : Inhabited Fn := ⟨⟨⟨#[]⟩, 0, 0, 0, 0⟩⟩
theorem wf64 {n : Int} (h : (Lit.int .i64 n).wf = true) : i64in n := by
  have := bounds_i64 h
  exact ⟨this.1, this.2⟩
/-- A slice's cell, whatever reads it. -/
theorem slice_cell {t e : TypeId} {fuel : Nat} {v : Value} {x : DataW H × List MemPlace} (ht : P.underlying t = some (.slice e)) (h : DataW.trod enc P w base spare held fuel t [v] = some x) : ∃ A len cap, v = .slice A len cap ∧ len ≤ cap ∧ cap ≤ maxLen ∧ (A = none → cap = 0) := by
  rcases open_slice ht h with ⟨hcs, _⟩ | ⟨a, l, c, m, n, D, Pl, hcs, hb, hl, hm, hmm, hx, hi⟩
  · injection hcs with hcs; exact ⟨none, 0, 0, hcs, Nat.le_refl _, Nat.zero_le _, fun _ => rfl⟩
  · injection hcs with hcs; exact ⟨some a, l, c, hcs, hl, hm, fun h => by cases h⟩
theorem open_ins {t : TypeId} {A : Option Addr} {len cap : Nat} {d : DataW H} {p : List MemPlace} (ht : Try.prog.underlying t = some (.slice 54))
    (h : DataW.Trod enc Try.prog w base spare held t (.slice A len cap) d p) : ∃ X, IL w (fun b => b < w.heap.size) A len X := by
  obtain ⟨F, h1, h2, h3⟩ := open_structs (P := Try.prog) ht Try.underlying54 (by kernel_rfl) (by kernel_rfl) (by
    intro j f hj
    match j, hj with
    | 0, hj => obtain rfl := Option.some.inj hj; exact Try.underlying3
    | 1, hj => obtain rfl := Option.some.inj hj; exact Try.underlying3
    | 2, hj => obtain rfl := Option.some.inj hj; exact Try.underlying3
    | 3, hj => obtain rfl := Option.some.inj hj; exact Try.underlying3
    | 4, hj => obtain rfl := Option.some.inj hj; exact Try.underlying3
    | j + 5, hj => simp at hj) (by decide) h
  refine ⟨fun i => ⟨F i 0, F i 1, F i 2, F i 3, F i 4⟩, h1, fun i hi => ?_⟩
  obtain ⟨b, off, rfl, hb⟩ := h2 (by omega)
  have k := fun j (hj : j < 5) => h3 i hi j hj
  have c := fun j (hj : j < 5) => (k j hj).2 b off rfl
  exact ⟨⟨wf64 (k 0 (by omega)).1, wf64 (k 1 (by omega)).1, wf64 (k 2 (by omega)).1, wf64 (k 3 (by omega)).1, wf64 (k 4 (by omega)).1⟩, b, off, rfl, hb, hb, c 0 (by omega), c 1 (by omega), c 2 (by omega), c 3 (by omega), c 4 (by omega)⟩
theorem open_fns {t : TypeId} {A : Option Addr} {len cap : Nat} {d : DataW H} {p : List MemPlace} (ht : Try.prog.underlying t = some (.slice 61))
    (h : DataW.Trod enc Try.prog w base spare held t (.slice A len cap) d p) : ∃ X, FL w (fun b => b < w.heap.size) A len X := by
  obtain ⟨fuel, hf⟩ := h
  rcases open_slice ht hf with ⟨hcs, _⟩ | ⟨a, l, c, m, n, D, Pl, hcs, hb, hl, hm, hmm, hx, hi⟩
  · simp [Value.cells] at hcs
    obtain ⟨rfl, rfl, rfl⟩ := hcs
    exact ⟨fun _ => ⟨⟨#[]⟩, 0, 0, 0, 0⟩, by omega, fun i hi => absurd hi (Nat.not_lt_zero _)⟩
  · simp [Value.cells] at hcs
    obtain ⟨rfl, rfl, rfl⟩ := hcs
    have hlm : len ≤ m := by rw [hmm]; split <;> omega
    have hC : Try.prog.cellsOf 61 = 5 := by kernel_rfl
    have c9 : Try.prog.cellsOf 9 = 1 := by kernel_rfl
    have c3 : Try.prog.cellsOf 3 = 1 := by kernel_rfl
    have one : ∀ i, i < len → ∃ f : Fn, FnIn f ∧ f.name.size ≤ 9223372036854775807 ∧ w.cell? (a.add (i * 5)) = some (.string f.name) ∧ w.cell? ((a.add (i * 5)).add 1) = some (.int .i64 f.frame) ∧ w.cell? ((a.add (i * 5)).add 2) = some (.int .i64 f.first) ∧ w.cell? ((a.add (i * 5)).add 3) = some (.int .i64 f.count) ∧ w.cell? ((a.add (i * 5)).add 4) = some (.int .i64 f.params) := by
      intro i hil
      obtain ⟨cs', hc, ht'⟩ := hi i (by omega)
      rw [hC] at hc
      obtain ⟨ys, n', hn', hy, hlen, hyl, hfd⟩ := DataW.trod_struct Try.underlying61 ht'
      obtain ⟨_, hcl, hat⟩ := World.cells?_some hc
      rw [hC] at hlen
      obtain ⟨v0, v1, v2, v3, v4, rfl⟩ := list5 cs' hlen
      have yl : ys.length = 5 := hyl
      have f0 : DataW.trod enc Try.prog w base spare held n' 9 (([v0, v1, v2, v3, v4].drop 0).take (Try.prog.cellsOf 9)) = ys[0]? := hfd 0 _ rfl
      have f1 : DataW.trod enc Try.prog w base spare held n' 3 (([v0, v1, v2, v3, v4].drop 1).take (Try.prog.cellsOf 3)) = ys[1]? := hfd 1 _ rfl
      have f2 : DataW.trod enc Try.prog w base spare held n' 3 (([v0, v1, v2, v3, v4].drop 2).take (Try.prog.cellsOf 3)) = ys[2]? := hfd 2 _ rfl
      have f3 : DataW.trod enc Try.prog w base spare held n' 3 (([v0, v1, v2, v3, v4].drop 3).take (Try.prog.cellsOf 3)) = ys[3]? := hfd 3 _ rfl
      have f4 : DataW.trod enc Try.prog w base spare held n' 3 (([v0, v1, v2, v3, v4].drop 4).take (Try.prog.cellsOf 3)) = ys[4]? := hfd 4 _ rfl
      simp only [c9, c3, List.drop_zero, List.drop_succ_cons, List.take_succ_cons, List.take_zero] at f0 f1 f2 f3 f4
      obtain ⟨s, e0, _, hs⟩ := DataW.trod_string Try.underlying9 (f0.trans (List.getElem?_eq_getElem (by omega)))
      obtain ⟨x1, e1, _, w1⟩ := DataW.trod_int Try.underlying3 (f1.trans (List.getElem?_eq_getElem (by omega)))
      obtain ⟨x2, e2, _, w2⟩ := DataW.trod_int Try.underlying3 (f2.trans (List.getElem?_eq_getElem (by omega)))
      obtain ⟨x3, e3, _, w3⟩ := DataW.trod_int Try.underlying3 (f3.trans (List.getElem?_eq_getElem (by omega)))
      obtain ⟨x4, e4, _, w4⟩ := DataW.trod_int Try.underlying3 (f4.trans (List.getElem?_eq_getElem (by omega)))
      injection e0 with e0
      injection e1 with e1
      injection e2 with e2
      injection e3 with e3
      injection e4 with e4
      subst e0 e1 e2 e3 e4
      refine ⟨⟨s, x1, x2, x3, x4⟩, ⟨wf64 w1, wf64 w2, wf64 w3, wf64 w4⟩, by simp only [maxLen] at hs; exact hs, ?_, hat 1 (by omega), hat 2 (by omega), hat 3 (by omega), hat 4 (by omega)⟩
      have h0 := hat 0 (by omega)
      rw [Go.Deep.add_add] at h0
      exact h0
    obtain ⟨F, hF⟩ := choose_lt one
    refine ⟨F, by simp only [maxLen] at hm; omega, fun i hil => ?_⟩
    obtain ⟨b, off, spot⟩ := a
    have hs := World.cell?_spot (hF 0 (by omega)).2.2.1
    have hspot : spot = none := by simpa [Addr.add] using hs
    subst hspot
    obtain ⟨k1, k2, k3, k4, k5, k6, k7⟩ := hF i hil
    rw [Go.Deep.add_add, Go.WideShapes.add_plain, ← Nat.add_assoc] at k4 k5 k6 k7
    rw [Go.WideShapes.add_plain] at k3
    have hlt := World.block_lt_of_cell? w _ k3
    exact ⟨k1, k2, b, off, rfl, hlt, hlt, k3, k4, k5, k6, k7⟩
set_option maxRecDepth 100000 in
theorem open_code {v : Value} {d : DataW H} {p : List MemPlace} {r : Reach} {b0 : Nat} (hv : Value.okWide Try.prog w r b0 25 v) (h : DataW.Trod enc Try.prog w base spare held 25 v d p) :
    ∃ A ni ci B nf cf m X Fs, v = codeV A ni ci B nf cf m ∧ (ni ≤ ci ∧ (A = none → ci = 0)) ∧ (nf ≤ cf ∧ (B = none → cf = 0)) ∧ i64in m ∧ IL w (fun b => b < w.heap.size) A ni X ∧ FL w (fun b => b < w.heap.size) B nf Fs := by
  obtain ⟨cs, rfl, hsz⟩ := okWide_struct Try.underlying25 hv
  obtain ⟨fuel, hf⟩ := h
  have hC : Try.prog.cellsOf 25 = 3 := by kernel_rfl
  have c22 : Try.prog.cellsOf 22 = 1 := by kernel_rfl
  have c23 : Try.prog.cellsOf 23 = 1 := by kernel_rfl
  have c3 : Try.prog.cellsOf 3 = 1 := by kernel_rfl
  rw [hC] at hsz
  obtain ⟨ys, n', hn', hy, hlen, hyl, hfd⟩ := DataW.trod_struct Try.underlying25 hf
  have hl3 : cs.toList.length = 3 := by rw [Array.length_toList]; exact hsz
  obtain ⟨v0, v1, v2, e⟩ := list3 cs.toList hl3
  have ecs : cs = #[v0, v1, v2] := Array.toList_inj.1 e
  subst ecs
  have yl : ys.length = 3 := hyl
  have f0 : DataW.trod enc Try.prog w base spare held n' 22 (([v0, v1, v2].drop 0).take (Try.prog.cellsOf 22)) = ys[0]? := hfd 0 _ rfl
  have f1 : DataW.trod enc Try.prog w base spare held n' 23 (([v0, v1, v2].drop 1).take (Try.prog.cellsOf 23)) = ys[1]? := hfd 1 _ rfl
  have f2 : DataW.trod enc Try.prog w base spare held n' 3 (([v0, v1, v2].drop 2).take (Try.prog.cellsOf 3)) = ys[2]? := hfd 2 _ rfl
  simp only [c22, c23, c3, List.drop_zero, List.drop_succ_cons, List.take_succ_cons, List.take_zero] at f0 f1 f2
  have g0 := f0.trans (List.getElem?_eq_getElem (by omega))
  have g1 := f1.trans (List.getElem?_eq_getElem (by omega))
  obtain ⟨A, ni, ci, rfl, h1, h2, z1⟩ := slice_cell Try.underlying22 g0
  obtain ⟨B, nf, cf, rfl, h3, h4, z2⟩ := slice_cell Try.underlying23 g1
  obtain ⟨m, e2, _, wm⟩ := DataW.trod_int Try.underlying3 (f2.trans (List.getElem?_eq_getElem (by omega)))
  injection e2 with e2
  subst e2
  obtain ⟨X, hX⟩ := open_ins Try.underlying22 ⟨n', g0⟩
  obtain ⟨Fs, hF⟩ := open_fns Try.underlying23 ⟨n', g1⟩
  exact ⟨A, ni, ci, B, nf, cf, m, X, Fs, rfl, ⟨h1, z1⟩, ⟨h3, z2⟩, wf64 wm, hX, hF⟩
set_option maxRecDepth 100000 in
theorem open_lim {v : Value} {d : DataW H} {p : List MemPlace} {r : Reach} {b0 : Nat} (hv : Value.okWide Try.prog w r b0 38 v) (h : DataW.Trod enc Try.prog w base spare held 38 v d p) :
    ∃ s g, v = .agg #[.int .i64 s, .int .i64 g] ∧ i64in s ∧ i64in g := by
  obtain ⟨cs, rfl, hsz⟩ := okWide_struct Try.underlying38 hv
  obtain ⟨fuel, hf⟩ := h
  have hC : Try.prog.cellsOf 38 = 2 := by kernel_rfl
  have c3 : Try.prog.cellsOf 3 = 1 := by kernel_rfl
  rw [hC] at hsz
  obtain ⟨ys, n', hn', hy, hlen, hyl, hfd⟩ := DataW.trod_struct Try.underlying38 hf
  have hl3 : cs.toList.length = 2 := by rw [Array.length_toList]; exact hsz
  obtain ⟨v0, v1, e⟩ := list2 cs.toList hl3
  have ecs : cs = #[v0, v1] := Array.toList_inj.1 e
  subst ecs
  have yl : ys.length = 2 := hyl
  have f0 : DataW.trod enc Try.prog w base spare held n' 3 (([v0, v1].drop 0).take (Try.prog.cellsOf 3)) = ys[0]? := hfd 0 _ rfl
  have f1 : DataW.trod enc Try.prog w base spare held n' 3 (([v0, v1].drop 1).take (Try.prog.cellsOf 3)) = ys[1]? := hfd 1 _ rfl
  simp only [c3, List.drop_zero, List.drop_succ_cons, List.take_succ_cons, List.take_zero] at f0 f1
  obtain ⟨x1, e1, _, w1⟩ := DataW.trod_int Try.underlying3 (f0.trans (List.getElem?_eq_getElem (by omega)))
  obtain ⟨x2, e2, _, w2⟩ := DataW.trod_int Try.underlying3 (f1.trans (List.getElem?_eq_getElem (by omega)))
  injection e1 with e1
  injection e2 with e2
  subst e1 e2
  exact ⟨_, _, rfl, wf64 w1, wf64 w2⟩
/-- A slice of whole numbers that is read as a list. -/
theorem open_nums {t : TypeId} {A : Option Addr} {len cap : Nat} {d : DataW H} {p : List MemPlace} (ht : Try.prog.underlying t = some (.slice 3))
    (h : DataW.Trod enc Try.prog w base spare held t (.slice A len cap) d p) : ∃ xs : List Int, xs.length = len ∧ NL w (fun b => b < w.heap.size) A xs ∧ (∀ x ∈ xs, i64in x) ∧ len ≤ cap ∧ (A = none → cap = 0) := by
  have h0 := h
  obtain ⟨F, h1, h2, h3⟩ := open_ints (P := Try.prog) ht Try.underlying3 (by kernel_rfl) h0
  obtain ⟨fuel, hf⟩ := h
  have hz : len ≤ cap ∧ (A = none → cap = 0) := by
    rcases open_slice ht hf with ⟨hcs, _⟩ | ⟨a, l, c, m, n, D, Pl, hcs, hb, hl, hm, hmm, hx, hi⟩
    · simp [Value.cells] at hcs
      obtain ⟨rfl, rfl, rfl⟩ := hcs
      exact ⟨Nat.le_refl _, fun _ => rfl⟩
    · simp [Value.cells] at hcs
      obtain ⟨rfl, rfl, rfl⟩ := hcs
      exact ⟨hl, fun h => by cases h⟩
  have hg : ∀ i, i < len → ((List.range len).map fun i => F i 0)[i]? = some (F i 0) := fun i hi => by
    rw [List.getElem?_map, List.getElem?_range hi]; rfl
  refine ⟨(List.range len).map fun i => F i 0, by simp, ⟨by simpa using h1, fun i hi => ?_⟩, fun x hx => ?_, hz.1, hz.2⟩
  · have hi' : i < len := by simpa using hi
    obtain ⟨b, off, rfl, hb⟩ := h2 (by omega)
    have k := (h3 i hi' 0 (by omega)).2 b off rfl
    refine ⟨b, off, rfl, hb, hb, ?_⟩
    rw [List.getD_eq_getElem?_getD, hg i hi']
    simpa using k
  · obtain ⟨i, hi, rfl⟩ := List.mem_map.1 hx
    exact wf64 (h3 i (List.mem_range.1 hi) 0 (by omega)).1
end
end Go.Proofs.Ytkjfbojmkkdgoaa
