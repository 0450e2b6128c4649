/- Arguments opened: a slice of structs of whole numbers; the last step of a row where the call has made memory. -/
import Derived.Test.YtkjfbojmkkdgoaaRows
import Derived.Deep.Slices
import Derived.Deep.Fields
import Derived.ChangeSame
import Derived.ProofKit
import Derived.OpenShut
namespace Go.Proofs.Ytkjfbojmkkdgoaa
open Go.ChangeShapes Go.WideShapes Go.Deep Go.RowKit
section
variable {H : Type} {enc : TypeId × Value → H} {P : Program} {w : World} {base : Nat} {spare : Nat → Bool} {held : Bool}
/-- 'len' structs of k whole numbers stand at A: number j of the i-th is F i j. -/
def RS (w : World) (k : Nat) (A : Option Addr) (len : Nat) (F : Nat → Nat → Int) : Prop :=
  len ≤ 9223372036854775807 ∧ (0 < len → ∃ b off, A = some ⟨b, off, none⟩ ∧ b < w.heap.size) ∧
  ∀ i, i < len → ∀ j, j < k → (Lit.int .i64 (F i j)).wf = true ∧ ∀ b off, A = some ⟨b, off, none⟩ → w.cell? ⟨b, off + i * k + j, none⟩ = some (.int .i64 (F i j))
theorem RS.below {w w' : World} {k : Nat} {A : Option Addr} {len : Nat} {F : Nat → Nat → Int} (h : RS w k A len F) (hb : Below w.heap.size w w') : RS w' k A len F := by
  obtain ⟨h1, h2, h3⟩ := h
  refine ⟨h1, fun hp => ?_, fun i hi j hj => ⟨(h3 i hi j hj).1, fun b off hA => ?_⟩⟩
  · obtain ⟨b, off, hA, hlt⟩ := h2 hp
    exact ⟨b, off, hA, Nat.lt_of_lt_of_le hlt hb.size⟩
  · obtain ⟨b', off', hA', hlt⟩ := h2 (by omega)
    rw [hA] at hA'
    injection hA' with hA'
    injection hA' with e1 e2
    subst e1
    rw [hb.cell (p := ⟨b, off + i * k + j, none⟩) hlt]
    exact (h3 i hi j hj).2 b off hA
theorem open_structs {t e : TypeId} {fs : Array Field} {A : Option Addr} {len cap : Nat} {d : DataW H} {p : List MemPlace} (ht : P.underlying t = some (.slice e)) (he : P.underlying e = some (.struct fs))
    (hone : oneCellFields P fs = true) (hC : P.cellsOf e = fs.size) (hint : ∀ (j : Nat) (f : Field), fs[j]? = some f → P.underlying f.type = some (.int .i64)) (hk : 0 < fs.size)
    (h : DataW.Trod enc P w base spare held t (.slice A len cap) d p) : ∃ F : Nat → Nat → Int, RS w fs.size A len F := by
  obtain ⟨fuel, hf⟩ := h
  rcases open_slice ht hf with ⟨hcs, _⟩ | ⟨a, l, c, m, n, D, Pl, hcs, hb, hl, hm, hmm, hx, hi⟩
  · simp [Value.cells] at hcs
    obtain ⟨rfl, rfl, rfl⟩ := hcs
    exact ⟨fun _ _ => 0, by omega, fun hp => by omega, fun i hi => by omega⟩
  · simp [Value.cells] at hcs
    obtain ⟨rfl, rfl, rfl⟩ := hcs
    have hlm : len ≤ m := by rw [hmm]; split <;> omega
    have one : ∀ i, i < len → ∀ j, j < fs.size → ∃ v : Int, (Lit.int .i64 v).wf = true ∧ w.cell? (a.add (i * fs.size + j)) = some (.int .i64 v) := by
      intro i hil j hj
      obtain ⟨cs', hc, ht'⟩ := hi i (by omega)
      rw [hC] at hc
      obtain ⟨ys, n', hn', hy, hlen, hyl, hfd⟩ := DataW.trod_struct he ht'
      obtain ⟨_, hcl, hat⟩ := World.cells?_some hc
      have hj' : fs[j]? = some fs[j] := Array.getElem?_eq_getElem hj
      obtain ⟨ho, hk'⟩ := hone_of hone j fs[j] hj'
      have hcell := hat j hj
      have hv : cs'[j]? = some (cs'[j]'(by omega)) := List.getElem?_eq_getElem (by omega)
      have h1 := hfd j fs[j] hj'
      rw [ho, hk'] at h1
      have hone' : (cs'.drop j).take 1 = [cs'[j]'(by omega)] := by
        rw [List.drop_eq_getElem_cons (by omega)]
        rfl
      rw [hone'] at h1
      have hys : ys[j]? = some (ys[j]'(by omega)) := List.getElem?_eq_getElem (by omega)
      obtain ⟨x, hxv, _, hwf⟩ := DataW.trod_int (hint j fs[j] hj') (h1.trans hys)
      refine ⟨x, hwf, ?_⟩
      rw [← Go.Deep.add_add, hcell, hv]
      simp at hxv
      rw [hxv]
    obtain ⟨F, hF⟩ := choose_lt (α := Nat → Int) (p := fun i f => ∀ j, j < fs.size → (Lit.int .i64 (f j)).wf = true ∧ w.cell? (a.add (i * fs.size + j)) = some (.int .i64 (f j))) (fun i hil => choose_lt (one i hil))
    refine ⟨F, by simp only [maxLen] at hm; omega, fun hp => ?_, fun i hil j hj => ?_⟩
    · obtain ⟨b, off, spot⟩ := a
      have h0 := (hF 0 hp 0 hk).2
      have hspot : spot = none := by simpa [Addr.add] using World.cell?_spot h0
      subst hspot
      exact ⟨b, off, rfl, by rw [Nat.zero_mul] at h0; exact World.block_lt_of_cell? w _ h0⟩
    · refine ⟨(hF i hil j hj).1, fun b off hA => ?_⟩
      obtain rfl := Option.some.inj hA
      rw [Nat.add_assoc, ← Go.WideShapes.add_plain]
      exact (hF i hil j hj).2
theorem open_ints {t e : TypeId} {A : Option Addr} {len cap : Nat} {d : DataW H} {p : List MemPlace} (ht : P.underlying t = some (.slice e)) (he : P.underlying e = some (.int .i64)) (hC : P.cellsOf e = 1)
    (h : DataW.Trod enc P w base spare held t (.slice A len cap) d p) : ∃ F : Nat → Nat → Int, RS w 1 A len F := by
  obtain ⟨fuel, hf⟩ := h
  rcases open_slice ht hf with ⟨hcs, _⟩ | ⟨a, l, c, m, n, D, Pl, hcs, hb, hl, hm, hmm, hx, hi⟩
  · simp [Value.cells] at hcs
    obtain ⟨rfl, rfl, rfl⟩ := hcs
    exact ⟨fun _ _ => 0, by omega, fun hp => by omega, fun i hi => by omega⟩
  · simp [Value.cells] at hcs
    obtain ⟨rfl, rfl, rfl⟩ := hcs
    have hlm : len ≤ m := by rw [hmm]; split <;> omega
    have one : ∀ i, i < len → ∃ v : Int, (Lit.int .i64 v).wf = true ∧ w.cell? (a.add i) = some (.int .i64 v) := by
      intro i hil
      obtain ⟨cs', hc, ht'⟩ := hi i (by omega)
      rw [hC, Nat.mul_one] at hc
      obtain ⟨x, hxv, _, hwf⟩ := DataW.trod_int he ht'
      obtain ⟨_, hcl, hat⟩ := World.cells?_some hc
      have h0 := hat 0 (by omega)
      refine ⟨x, hwf, ?_⟩
      rw [hxv] at h0
      have e0 : (a.add i).add 0 = a.add i := by rw [Go.Deep.add_add]; rfl
      rw [e0] at h0
      simpa using h0
    obtain ⟨F, hF⟩ := choose_lt one
    refine ⟨fun i _ => F i, by simp only [maxLen] at hm; omega, fun hp => ?_, fun i hil j hj => ?_⟩
    · obtain ⟨b, off, spot⟩ := a
      have h0 := (hF 0 hp).2
      have hspot : spot = none := by simpa [Addr.add] using World.cell?_spot h0
      subst hspot
      exact ⟨b, off, rfl, World.block_lt_of_cell? w _ h0⟩
    · obtain rfl : j = 0 := by omega
      refine ⟨(hF i hil).1, fun b off hA => ?_⟩
      obtain rfl := Option.some.inj hA
      rw [Nat.mul_one, Nat.add_zero, ← Go.WideShapes.add_plain]
      exact (hF i hil).2
end
end Go.Proofs.Ytkjfbojmkkdgoaa
