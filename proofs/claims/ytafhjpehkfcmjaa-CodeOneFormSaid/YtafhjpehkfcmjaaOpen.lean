/- Arguments opened: a slice of bytes. -/
import Derived.Test.YtafhjpehkfcmjaaArgs
import Derived.Test.YtafhjpehkfcmjaaW20
set_option linter.unusedVariables false
set_option linter.unusedSimpArgs false
namespace Go.Proofs.Ytafhjpehkfcmjaa
open Go.ChangeShapes Go.WideShapes Go.Deep Go.RowKit
section
variable {H : Type} {enc : TypeId × Value → H} {P : Program} {w : World} {base : Nat} {spare : Nat → Bool} {held : Bool}
theorem open_bytes {t e : TypeId} {A : Option Addr} {len cap : Nat} {d : DataW H} {p : List MemPlace} (ht : P.underlying t = some (.slice e)) (he : P.underlying e = some (.int .u8)) (hC : P.cellsOf e = 1)
    (h : DataW.Trod enc P w base spare held t (.slice A len cap) d p) : ∃ S : Nat → UInt8, BL w (fun b => b < w.heap.size) A len S ∧ len ≤ cap ∧ cap ≤ 9223372036854775807 := by
  obtain ⟨fuel, hf⟩ := h
  rcases open_slice ht hf with ⟨hcs, _⟩ | ⟨a, l, c, m, n, D, Pl, hcs, hb, hl, hm, hmm, hx, hi⟩
  · simp [Value.cells] at hcs
    obtain ⟨rfl, rfl, rfl⟩ := hcs
    exact ⟨fun _ => 0, fun i hi => absurd hi (Nat.not_lt_zero _), Nat.le_refl _, by omega⟩
  · simp [Value.cells] at hcs
    obtain ⟨rfl, rfl, rfl⟩ := hcs
    have hlm : len ≤ m := by rw [hmm]; split <;> omega
    have one : ∀ i, i < len → ∃ v : UInt8, w.cell? (a.add i) = some (.int .u8 (v.toNat : Int)) := by
      intro i hil
      obtain ⟨cs', hc, ht'⟩ := hi i (by omega)
      rw [hC, Nat.mul_one] at hc
      obtain ⟨x, hxv, _, hwf⟩ := DataW.trod_int he ht'
      obtain ⟨_, hcl, hat⟩ := World.cells?_some hc
      have h0 := hat 0 (by omega)
      have hr := bounds_u8 hwf
      refine ⟨UInt8.ofNat x.toNat, ?_⟩
      rw [hxv] at h0
      have e0 : (a.add i).add 0 = a.add i := by rw [Go.Deep.add_add]; rfl
      rw [e0] at h0
      have e1 : ((UInt8.ofNat x.toNat).toNat : Int) = x := by
        rw [UInt8.toNat_ofNat']
        omega
      rw [e1]
      simpa using h0
    obtain ⟨F, hF⟩ := choose_lt one
    refine ⟨F, fun i hil => ?_, hl, by simp only [maxLen] at hm; omega⟩
    obtain ⟨b, off, spot⟩ := a
    have h0 := hF i hil
    have hs := World.cell?_spot (hF 0 (by omega))
    have hspot : spot = none := by simpa [Addr.add] using hs
    subst hspot
    rw [Go.WideShapes.add_plain] at h0
    have hlt := World.block_lt_of_cell? w _ h0
    exact ⟨b, off, rfl, hlt, hlt, h0⟩
end
end Go.Proofs.Ytafhjpehkfcmjaa
