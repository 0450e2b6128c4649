/- Arguments opened: a slice of whole numbers. -/
import Derived.Test.YtoakmifihofpeaaArgs
set_option linter.unusedVariables false
set_option linter.unusedSimpArgs false
namespace Go.Proofs.Ytoakmifihofpeaa
open Go.ChangeShapes Go.WideShapes Go.Deep Go.RowKit
section
variable {H : Type} {enc : TypeId × Value → H} {P : Program} {w : World} {base : Nat} {spare : Nat → Bool} {held : Bool}
theorem open_ints {t e : TypeId} {A : Option Addr} {len cap : Nat} {d : DataW H} {p : List MemPlace} (ht : P.underlying t = some (.slice e)) (he : P.underlying e = some (.int .i64)) (hC : P.cellsOf e = 1)
    (h : DataW.Trod enc P w base spare held t (.slice A len cap) d p) : ∃ F : Nat → Nat → Int, RS w 1 A len F := by
  obtain ⟨fuel, hf⟩ := h
  rcases open_slice ht hf with ⟨hcs, _⟩ | ⟨a, l, c, m, n, D, Pl, hcs, hb, hl, hm, hmm, hx, hi⟩
  · simp [Value.cells] at hcs
    obtain ⟨rfl, rfl, rfl⟩ := hcs
    exact ⟨fun _ _ => 0, by omega, fun hp => by omega, fun i hi => by omega⟩
  · simp [Value.cells] at hcs
    obtain ⟨rfl, rfl, rfl⟩ := hcs
    have hlm : len ≤ m := by rw [hmm]; split <;> omega
    have one : ∀ i, i < len → ∃ v : Int, (Lit.int .i64 v).wf = true ∧ w.cell? (a.add i) = some (.int .i64 v) := by
      intro i hil
      obtain ⟨cs', hc, ht'⟩ := hi i (by omega)
      rw [hC, Nat.mul_one] at hc
      obtain ⟨x, hxv, _, hwf⟩ := DataW.trod_int he ht'
      obtain ⟨_, hcl, hat⟩ := World.cells?_some hc
      have h0 := hat 0 (by omega)
      refine ⟨x, hwf, ?_⟩
      rw [hxv] at h0
      have e0 : (a.add i).add 0 = a.add i := by rw [Go.Deep.add_add]; rfl
      rw [e0] at h0
      simpa using h0
    obtain ⟨F, hF⟩ := choose_lt one
    refine ⟨fun i _ => F i, by simp only [maxLen] at hm; omega, fun hp => ?_, fun i hil j hj => ?_⟩
    · obtain ⟨b, off, spot⟩ := a
      have h0 := (hF 0 hp).2
      have hspot : spot = none := by simpa [Addr.add] using World.cell?_spot h0
      subst hspot
      exact ⟨b, off, rfl, World.block_lt_of_cell? w _ h0⟩
    · obtain rfl : j = 0 := by omega
      refine ⟨(hF i hil).1, fun b off hA => ?_⟩
      obtain rfl := Option.some.inj hA
      rw [Nat.mul_one, Nat.add_zero, ← Go.WideShapes.add_plain]
      exact (hF i hil).2
end
end Go.Proofs.Ytoakmifihofpeaa
