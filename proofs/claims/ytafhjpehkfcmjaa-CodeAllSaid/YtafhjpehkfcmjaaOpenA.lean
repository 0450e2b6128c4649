/- Arguments opened: a slice of calls, each a code and bytes. -/
import Derived.Test.YtafhjpehkfcmjaaOpenS
set_option linter.unusedVariables false
set_option linter.unusedSimpArgs false
namespace Go.Proofs.Ytafhjpehkfcmjaa
open Go.ChangeShapes Go.WideShapes Go.Deep Go.RowKit
/-- A call of the script. -/
structure CC where
  A : Option Addr
  ni : Nat
  ci : Nat
  B : Option Addr
  nf : Nat
  cf : Nat
  m : Int
  X : Nat → Ins
  Fs : Nat → Fn
  D : Option Addr
  L : Nat
  dc : Nat
  S : Nat → UInt8
instance : Inhabited CC := ⟨⟨none, 0, 0, none, 0, 0, 0, fun _ => ⟨0, 0, 0, 0, 0⟩, fun _ => ⟨⟨#[]⟩, 0, 0, 0, 0⟩, none, 0, 0, fun _ => 0⟩⟩
/-- What is known of a call, wherever its cells lie. -/
structure CK (w : World) (x : CC) : Prop where
  h1 : x.ni ≤ x.ci
  h2 : x.nf ≤ x.cf
  hm : i64in x.m
  il : IL w (fun b => b < w.heap.size) x.A x.ni x.X
  fl : FL w (fun b => b < w.heap.size) x.B x.nf x.Fs
  bl : BL w (fun b => b < w.heap.size) x.D x.L x.S
  h3 : x.L ≤ x.dc
  h4 : x.dc ≤ 9223372036854775807
def SC (w : World) (A : Option Addr) (n : Nat) (f : Nat → CC) : Prop :=
  n ≤ 9223372036854775807 ∧ ∀ i, i < n → CK w (f i) ∧ ∃ b off, A = some ⟨b, off, none⟩ ∧ b < w.heap.size ∧ w.cell? ⟨b, off + i * 4, none⟩ = some (.slice (f i).A (f i).ni (f i).ci) ∧ w.cell? ⟨b, off + i * 4 + 1, none⟩ = some (.slice (f i).B (f i).nf (f i).cf) ∧
    w.cell? ⟨b, off + i * 4 + 2, none⟩ = some (.int .i64 (f i).m) ∧ w.cell? ⟨b, off + i * 4 + 3, none⟩ = some (.slice (f i).D (f i).L (f i).dc)
section
variable {H : Type} {enc : TypeId × Value → H} {w : World} {base : Nat} {spare : Nat → Bool} {held : Bool}
theorem list4 {α : Type} : ∀ l : List α, l.length = 4 → ∃ a b c d, l = [a, b, c, d]
  | [a, b, c, d], _ => ⟨a, b, c, d, rfl⟩
theorem list2 {α : Type} : ∀ l : List α, l.length = 2 → ∃ a b, l = [a, b]
  | [a, b], _ => ⟨a, b, rfl⟩
theorem weights_two {P : Program} {t ta tb : TypeId} {fs : Array Field} (ht : P.underlying t = some (.struct fs)) (hfs : fs.toList.map (·.type) = [ta, tb]) {y0 y1 : DataW H × List MemPlace} (h : ((DataW.agg ([y0, y1].map (·.1))).weights P t).all (· ≤ reachBytes) = true) : (y1.1.weights P tb).all (· ≤ reachBytes) = true := by
  unfold DataW.weights at h
  rw [ht] at h
  simp only [hfs, List.map_cons, List.map_nil, DataW.weightsEach, List.all_append, Bool.and_eq_true] at h
  exact h.2.1
theorem weights_of_mem {p : Nat → Bool} {e : TypeId} {d : DataW H} : ∀ {l : List (DataW H)}, (DataW.weightsAll Try.prog e l).all p = true → d ∈ l → (d.weights Try.prog e).all p = true
  | [], _, hm => by cases hm
  | x :: l, h, hm => by
    rw [DataW.weightsAll, List.all_append, Bool.and_eq_true] at h
    rcases List.mem_cons.1 hm with rfl | hm
    · exact h.1
    · exact weights_of_mem h.2 hm
theorem open_code3 {fuel : Nat} {v0 v1 v2 : Value} {x : DataW H × List MemPlace} (hf : DataW.trod enc Try.prog w base spare held fuel 25 [v0, v1, v2] = some x) :
    ∃ A ni ci B nf cf m X Fs, v0 = .slice A ni ci ∧ v1 = .slice B nf cf ∧ v2 = .int .i64 m ∧ ni ≤ ci ∧ nf ≤ cf ∧ i64in m ∧ IL w (fun b => b < w.heap.size) A ni X ∧ FL w (fun b => b < w.heap.size) B nf Fs := by
  have c22 : Try.prog.cellsOf 22 = 1 := by kernel_rfl
  have c23 : Try.prog.cellsOf 23 = 1 := by kernel_rfl
  have c3 : Try.prog.cellsOf 3 = 1 := by kernel_rfl
  obtain ⟨ys, n', hn', hy, hlen, hyl, hfd⟩ := DataW.trod_struct Try.underlying25 hf
  have yl : ys.length = 3 := hyl
  have f0 : DataW.trod enc Try.prog w base spare held n' 22 (([v0, v1, v2].drop 0).take (Try.prog.cellsOf 22)) = ys[0]? := hfd 0 _ rfl
  have f1 : DataW.trod enc Try.prog w base spare held n' 23 (([v0, v1, v2].drop 1).take (Try.prog.cellsOf 23)) = ys[1]? := hfd 1 _ rfl
  have f2 : DataW.trod enc Try.prog w base spare held n' 3 (([v0, v1, v2].drop 2).take (Try.prog.cellsOf 3)) = ys[2]? := hfd 2 _ rfl
  simp only [c22, c23, c3, List.drop_zero, List.drop_succ_cons, List.take_succ_cons, List.take_zero] at f0 f1 f2
  have g0 := f0.trans (List.getElem?_eq_getElem (by omega))
  have g1 := f1.trans (List.getElem?_eq_getElem (by omega))
  obtain ⟨A, ni, ci, rfl, h1, h2, _⟩ := slice_cell Try.underlying22 g0
  obtain ⟨B, nf, cf, rfl, h3, h4, _⟩ := slice_cell Try.underlying23 g1
  obtain ⟨m, e2, _, wm⟩ := DataW.trod_int Try.underlying3 (f2.trans (List.getElem?_eq_getElem (by omega)))
  injection e2 with e2
  subst e2
  obtain ⟨X, hX⟩ := open_ins Try.underlying22 ⟨n', g0⟩
  obtain ⟨Fs, hF⟩ := open_fns Try.underlying23 ⟨n', g1⟩
  exact ⟨A, ni, ci, B, nf, cf, m, X, Fs, rfl, rfl, rfl, h1, h3, wf64 wm, hX, hF⟩
theorem open_call {fuel : Nat} {cs : List Value} {x : DataW H × List MemPlace} (hl : cs.length = 4) (hf : DataW.trod enc Try.prog w base spare held fuel 32 cs = some x) :
    ∃ c : CC, CK w c ∧ cs = [.slice c.A c.ni c.ci, .slice c.B c.nf c.cf, .int .i64 c.m, .slice c.D c.L c.dc] ∧ ((x.1.weights Try.prog 32).all (· ≤ reachBytes) = true → c.L ≤ 140737488351232) := by
  have c25 : Try.prog.cellsOf 25 = 3 := by kernel_rfl
  have c28 : Try.prog.cellsOf 28 = 1 := by kernel_rfl
  obtain ⟨v0, v1, v2, v3, rfl⟩ := list4 cs hl
  obtain ⟨ys, n', hn', hy, hlen, hyl, hfd⟩ := DataW.trod_struct Try.underlying32 hf
  have yl : ys.length = 2 := hyl
  have f0 : DataW.trod enc Try.prog w base spare held n' 25 (([v0, v1, v2, v3].drop 0).take (Try.prog.cellsOf 25)) = ys[0]? := hfd 0 _ rfl
  have f1 : DataW.trod enc Try.prog w base spare held n' 28 (([v0, v1, v2, v3].drop 3).take (Try.prog.cellsOf 28)) = ys[1]? := hfd 1 _ rfl
  simp only [c25, c28, List.drop_zero, List.drop_succ_cons, List.take_succ_cons, List.take_zero] at f0 f1
  have g0 := f0.trans (List.getElem?_eq_getElem (by omega))
  have g1 := f1.trans (List.getElem?_eq_getElem (by omega))
  obtain ⟨A, ni, ci, B, nf, cf, m, X, Fs, rfl, rfl, rfl, h1, h2, h3, h4, h5⟩ := open_code3 g0
  obtain ⟨D, L, dc, rfl, k1, k2, _⟩ := slice_cell Try.underlying28 g1
  obtain ⟨S, hS, k3, k4⟩ := open_bytes Try.underlying28 Try.underlying5 (by kernel_rfl) ⟨n', g1⟩
  refine ⟨⟨A, ni, ci, B, nf, cf, m, X, Fs, D, L, dc, S⟩, ⟨h1, h2, h3, h4, h5, hS, k3, k4⟩, rfl, fun hM => ?_⟩
  obtain ⟨y0, y1, rfl⟩ := list2 ys yl
  refine bytes_weigh Try.underlying28 (by kernel_rfl) ⟨n', g1⟩ ?_
  rw [hy] at hM
  exact weights_two (ta := 25) Try.underlying32 rfl hM
theorem open_calls {t : TypeId} {A : Option Addr} {len cap : Nat} {d : DataW H} {p : List MemPlace} (ht : Try.prog.underlying t = some (.slice 32))
    (h : DataW.Trod enc Try.prog w base spare held t (.slice A len cap) d p) : ∃ f, SC w A len f ∧ ((d.weights Try.prog t).all (· ≤ reachBytes) = true → ∀ i, i < len → (f i).L ≤ 140737488351232) ∧ len ≤ cap ∧ cap ≤ 9223372036854775807 := by
  have hC : Try.prog.cellsOf 32 = 4 := by kernel_rfl
  obtain ⟨fuel, hf⟩ := h
  rcases open_slice ht hf with ⟨hcs, _⟩ | ⟨a, l, c, m, n, D, Pl, hcs, hb, hl, hm, hmm, hx, hi⟩
  · simp [Value.cells] at hcs
    obtain ⟨rfl, rfl, rfl⟩ := hcs
    exact ⟨fun _ => default, ⟨by omega, fun i hi => absurd hi (Nat.not_lt_zero _)⟩, fun _ i hi => absurd hi (Nat.not_lt_zero _), Nat.le_refl _, by omega⟩
  · simp [Value.cells] at hcs
    obtain ⟨rfl, rfl, rfl⟩ := hcs
    have hlm : len ≤ m := by rw [hmm]; split <;> omega
    have one : ∀ i, i < len → ∃ x : CC, CK w x ∧ w.cell? (a.add (i * 4)) = some (.slice x.A x.ni x.ci) ∧ w.cell? (a.add (i * 4 + 1)) = some (.slice x.B x.nf x.cf) ∧ w.cell? (a.add (i * 4 + 2)) = some (.int .i64 x.m) ∧ w.cell? (a.add (i * 4 + 3)) = some (.slice x.D x.L x.dc) ∧ (((D i).weights Try.prog 32).all (· ≤ reachBytes) = true → x.L ≤ 140737488351232) := by
      intro i hil
      obtain ⟨cs', hc, ht'⟩ := hi i (by omega)
      rw [hC] at hc
      obtain ⟨_, hcl, hat⟩ := World.cells?_some hc
      obtain ⟨x, hk, hx2, hM⟩ := open_call (by simpa using hcl) ht'
      have at_ : ∀ j, j < 4 → w.cell? (a.add (i * 4 + j)) = [Value.slice x.A x.ni x.ci, .slice x.B x.nf x.cf, .int .i64 x.m, .slice x.D x.L x.dc][j]? := by
        intro j hj
        have h0 := hat j hj
        rw [Go.Deep.add_add] at h0
        rw [h0, ← hx2]
      exact ⟨x, hk, at_ 0 (by omega), at_ 1 (by omega), at_ 2 (by omega), at_ 3 (by omega), hM⟩
    obtain ⟨F, hF⟩ := choose_lt one
    have hd : d = .slice ((List.range len).map D) ((List.range (m - len)).map fun j => D (len + j)) := congrArg Prod.fst hx
    refine ⟨F, ⟨by simp only [maxLen] at hm; omega, fun i hil => ?_⟩, fun hM i hil => ?_, hl, by simp only [maxLen] at hm; omega⟩
    rotate_left
    · rw [hd] at hM
      unfold DataW.weights at hM
      rw [ht] at hM
      simp only [List.all_cons, List.all_append, Bool.and_eq_true] at hM
      exact (hF i hil).2.2.2.2.2 (weights_of_mem hM.2.1 (List.mem_map.2 ⟨i, List.mem_range.2 hil, rfl⟩))
    obtain ⟨b, off, spot⟩ := a
    obtain ⟨hk, h0, h1, h2, h3, _⟩ := hF i hil
    have hspot : spot = none := by
      have hs := World.cell?_spot (hF 0 (by omega)).2.1
      simpa [Addr.add] using hs
    subst hspot
    simp only [Go.WideShapes.add_plain] at h0 h1 h2 h3
    exact ⟨hk, b, off, rfl, World.block_lt_of_cell? w _ h0, h0, h1, h2, h3⟩
end
end Go.Proofs.Ytafhjpehkfcmjaa
