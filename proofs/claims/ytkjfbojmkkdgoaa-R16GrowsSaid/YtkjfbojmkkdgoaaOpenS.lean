/- Arguments opened: code and numbers lie within the form's reach. -/
import Derived.Test.YtkjfbojmkkdgoaaOpen
import Derived.SizedLaws
set_option linter.unusedVariables false
set_option linter.unusedSimpArgs false
namespace Go.Proofs.Ytkjfbojmkkdgoaa
open Go.ChangeShapes Go.WideShapes Go.Deep Go.RowKit
section
variable {H : Type} {enc : TypeId × Value → H} {P : Program} {w : World} {base : Nat} {spare : Nat → Bool} {held : Bool}
theorem slice_weigh {t e : TypeId} {A : Option Addr} {len cap k : Nat} {d : DataW H} {p : List MemPlace} (ht : P.underlying t = some (.slice e)) (hB : P.bytesOf e = k) (hk : 1 ≤ k)
    (h : DataW.Trod enc P w base spare held t (.slice A len cap) d p) (hM : (d.weights P t).all (· ≤ reachBytes) = true) : len ≤ 140737488351232 := by
  obtain ⟨fuel, hf⟩ := h
  rcases open_slice ht hf with ⟨hcs, _⟩ | ⟨a, l, c, m, n, D, Pl, hcs, hb, hl, hm, hmm, hx, hi⟩
  · simp [Value.cells] at hcs
    obtain ⟨rfl, rfl, rfl⟩ := hcs
    omega
  · simp [Value.cells] at hcs
    obtain ⟨rfl, rfl, rfl⟩ := hcs
    have hd : d = .slice ((List.range len).map D) ((List.range (m - len)).map fun j => D (len + j)) := congrArg Prod.fst hx
    rw [hd] at hM
    have := List.all_eq_true.1 hM ((((List.range len).map D).length + ((List.range (m - len)).map fun j => D (len + j)).length) * P.bytesOf e) (by simp [DataW.weights, ht])
    rw [hB] at this
    have h2 := of_decide_eq_true this
    simp [reachBytes] at h2
    have h3 : len ≤ (len + (m - len)) * k := Nat.le_trans (Nat.le_add_right _ _) (Nat.le_mul_of_pos_right _ hk)
    omega
theorem nums_weigh {t : TypeId} {A : Option Addr} {len cap : Nat} {d : DataW H} {p : List MemPlace} (ht : Try.prog.underlying t = some (.slice 3))
    (h : DataW.Trod enc Try.prog w base spare held t (.slice A len cap) d p) (hM : (d.weights Try.prog t).all (· ≤ reachBytes) = true) : len ≤ 140737488351232 :=
  slice_weigh ht (by kernel_rfl : Try.prog.bytesOf 3 = 8) (by decide) h hM
set_option maxRecDepth 100000 in
theorem code_weigh {A : Option Addr} {ni ci : Nat} {B : Option Addr} {nf cf : Nat} {m : Int} {d : DataW H} {p : List MemPlace} (h : DataW.Trod enc Try.prog w base spare held 25 (codeV A ni ci B nf cf m) d p) (hM : (d.weights Try.prog 25).all (· ≤ reachBytes) = true) : ni ≤ 140737488351232 := by
  obtain ⟨fuel, hf⟩ := h
  have c22 : Try.prog.cellsOf 22 = 1 := by kernel_rfl
  obtain ⟨ys, n', hn', hy, hlen, hyl, hfd⟩ := DataW.trod_struct Try.underlying25 hf
  have yl : ys.length = 3 := hyl
  have f0 : DataW.trod enc Try.prog w base spare held n' 22 (([Value.slice A ni ci, Value.slice B nf cf, Value.int .i64 m].drop 0).take (Try.prog.cellsOf 22)) = ys[0]? := hfd 0 _ rfl
  simp only [c22, List.drop_zero, List.take_succ_cons, List.take_zero] at f0
  obtain ⟨y0, y1, y2, rfl⟩ := list3 ys yl
  have hd : d = .agg ([y0, y1, y2].map (·.1)) := congrArg Prod.fst hy
  rw [hd] at hM
  have e : (DataW.agg ([y0, y1, y2].map (·.1)) : DataW H).weights Try.prog 25 = y0.1.weights Try.prog 22 ++ (y1.1.weights Try.prog 23 ++ (y2.1.weights Try.prog 3 ++ [])) := by
    simp [DataW.weights, Try.underlying25, DataW.weightsEach]
  rw [e, List.all_append, Bool.and_eq_true] at hM
  exact slice_weigh (d := y0.1) (p := y0.2) Try.underlying22 (by kernel_rfl : Try.prog.bytesOf 54 = 40) (by decide) ⟨n', f0⟩ hM.1
end
end Go.Proofs.Ytkjfbojmkkdgoaa
