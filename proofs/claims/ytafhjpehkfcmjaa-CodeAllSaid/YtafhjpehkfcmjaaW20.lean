/- code's reader: field, number: the walks. -/
import Derived.Test.YtafhjpehkfcmjaaW19
import Derived.Lib.EndianBits
set_option linter.unusedVariables false
set_option linter.unusedSimpArgs false
namespace Go.Proofs.Ytafhjpehkfcmjaa
open Go.RowKit
attribute [local go_sem ↓] Go.wp_at_zero Go.wp_at_succ
/-- Bytes that can be read at A. -/
def BL (w : World) (G : Nat → Prop) (A : Option Addr) (n : Nat) (S : Nat → UInt8) : Prop :=
  ∀ i, i < n → ∃ b off, A = some ⟨b, off, none⟩ ∧ G b ∧ b < w.heap.size ∧ w.cell? ⟨b, off + i, none⟩ = some (.int .u8 ((S i).toNat : Int))
theorem BL.only {w w' : World} {G F : Nat → Prop} {A : Option Addr} {n : Nat} {S : Nat → UInt8} (h : BL w G A n S) (o : Only F w w') (hd : ∀ b, b < w.heap.size → G b → ¬ F b) : BL w' G A n S :=
  fun i hi => let ⟨b, off, h1, h2, h3, h4⟩ := h i hi
    ⟨b, off, h1, h2, Nat.lt_of_lt_of_le h3 o.size, (o.cell h3 (hd b h3 h2)).trans h4⟩
/-- The cells of a reader. -/
def rcells (bv : Value) (p : Nat) (bad : Bool) (iv fv : Value) (m : Int) (mb : Nat) : Array Value := #[bv, .int .i64 (p : Int), .bool bad, iv, fv, .int .i64 m, .map (some mb)]
def FieldPost (Bf : Nat → UInt8) (L n : Nat) (r : Nat) (bv iv fv : Value) (m : Int) (mb : Nat) (p : Nat) (bad : Bool) (w : World) (e : Ending) (w' : World) : Prop :=
  ∃ D S p' bad', e = .returned (.slice D n n) ∧ Blk w' r 67 (rcells bv p' bad' iv fv m mb) ∧ Only (fun b => b = r) w w' ∧ BL w' (fun b => b ≠ r) D n S ∧
    ((bad = true ∧ bad' = true ∧ p' = p) ∨ (bad = false ∧ L < p + n ∧ bad' = true ∧ p' = L) ∨ (bad = false ∧ p + n ≤ L ∧ bad' = false ∧ p' = p + n ∧ ∀ i, i < n → S i = Bf (p + i)))
theorem made_bytes (n : Nat) (hn : n ≤ 300000000) : ∃ Z : Array Value, (∀ i, i < n → Z[i]? = some (.int .u8 0)) ∧ ∀ W' : World, (Instr.makeSlice 28 (.int .i64 (n : Int)) (.int .i64 (n : Int))).run Try.prog W' = .ok (.slice (some ⟨W'.heap.size, 0, none⟩) n n) (W'.alloc (.cells Z 5)) := by
  obtain ⟨i0, hI, hz0, hz1, hz2⟩ := u8_info
  refine ⟨madeCells (Value.int .u8 0).cells (n * 1), fun i hi => ?_, fun W' => ?_⟩
  · simp [madeCells, Value.cells, hi, Nat.mod_one]
  · have := run_make (P := Try.prog) (w := W') 28 5 i0 (.int .u8 0) Try.underlying28 hI hz0 .i64 .i64 (n : Int) (n : Int) (by omega) (Int.le_refl _) (by rw [hz2]; simp; omega) (by omega)
    rw [hz1] at this
    simpa using this
theorem zero_bytes {w : World} {Z : Array Value} {n : Nat} (hZ : ∀ i, i < n → Z[i]? = some (.int .u8 0)) {G : Nat → Prop} (hG : G w.heap.size) : BL (w.alloc (.cells Z 5)) G (some ⟨w.heap.size, 0, none⟩) n (fun _ => 0) :=
  fun i hi => ⟨_, 0, rfl, hG, by simp, by rw [cell_of_row _ _ _ _ _ _ (heap_alloc_new w _), Nat.zero_add]; exact hZ i hi⟩
set_option maxRecDepth 100000 in
set_option maxHeartbeats 16000000 in
theorem rdfield_c (w : World) (G : Nat → Prop) (A : Option Addr) (L c : Nat) (Bf : Nat → UInt8) (r : Nat) (iv fv : Value) (m : Int) (mb : Nat) (p : Nat) (bad : Bool) (n : Nat) (hb : Blk w r 67 (rcells (.slice A L c) p bad iv fv m mb)) (hB : BL w G A L Bf) (hGr : ¬ G r) (hp : p ≤ L) (hL : L ≤ 300000000) (hc : L ≤ c) (hc2 : c ≤ 9223372036854775807) (hn : 1 ≤ n) (hn2 : n ≤ 64) :
    Calls Try.prog 39 #[.pointer (some ⟨r, 0, none⟩), .int .i64 (n : Int)] w (FieldPost Bf L n r (.slice A L c) iv fv m mb p bad w) := by
  obtain ⟨Z, hZ0, hmk⟩ := made_bytes n (by omega)
  have HZ := Lib.hid hZ0
  have HB := Lib.hid hb
  have HR := Lib.hid hB
  have HGr := Lib.hid hGr
  have c0 : w.cell? ⟨r, 0, none⟩ = some (.slice A L c) := hb.cell 0
  have c1 : w.cell? ⟨r, 1, none⟩ = some (.int .i64 (p : Int)) := hb.cell 1
  have c2 : w.cell? ⟨r, 2, none⟩ = some (.bool bad) := hb.cell 2
  have z : ∀ j, w.frozen? ⟨r, j, none⟩ = false := hb.frozen
  have hlt := hb.lt
  clear hb hB hZ0 hGr
  cases bad with
  | true =>
    go_enter Try.func39, Try.ntmps39
    go_wp2_with fail
    go_ret
    exact ⟨_, _, p, true, rfl, HB.out.alloc _, (Only.refl _ _).alloc _, zero_bytes HZ.out (by omega), .inl ⟨rfl, rfl, rfl⟩⟩
  | false =>
    by_cases hfit : p + n ≤ L
    · obtain ⟨b, off, rfl, hGb, hbl, _⟩ := HR.out 0 (by omega)
      have hne : b ≠ r := fun e => HGr.out (e ▸ hGb)
      have B2 : Hid (∀ k, Blk ((w.drewN k).setCell ⟨r, 1, none⟩ (.int .i64 ((p + n : Nat) : Int))) r 67 (rcells (.slice (some ⟨b, off, none⟩) L c) (p + n) false iv fv m mb)) := fun k => (HB.out.drewN k).set_ 1 _
      have O2 : Hid (∀ k, Only (fun b => b = r) w ((w.drewN k).setCell ⟨r, 1, none⟩ (.int .i64 ((p + n : Nat) : Int)))) := fun k => ((Only.refl (fun b => b = r) w).drewN k).setCell (.inl rfl) _
      have E : Hid (∀ (W : World) e, e = Ending.returned (.slice (some ⟨b, off + p, none⟩) n n) → (∃ k, W = (w.drewN k).setCell ⟨r, 1, none⟩ (.int .i64 ((p + n : Nat) : Int))) → FieldPost Bf L n r (.slice (some ⟨b, off, none⟩) L c) iv fv m mb p false w e W) := by
        rintro W e rfl ⟨k, rfl⟩
        have O := O2.out k
        refine ⟨some ⟨b, off + p, none⟩, fun i => Bf (p + i), p + n, false, rfl, B2.out k, O, fun i hi => ?_, .inr (.inr ⟨rfl, hfit, rfl, rfl, fun _ _ => rfl⟩)⟩
        obtain ⟨b', off', e, h1, h2, h3⟩ := HR.out (p + i) (by omega)
        injection e with e
        injection e with e1 e2 _
        subst e1 e2
        refine ⟨b, off + p, rfl, hne, Nat.lt_of_lt_of_le h2 O.size, ?_⟩
        rw [Nat.add_assoc]
        exact (O.cell h2 hne).trans h3
      clear B2 O2 HB HR HZ hmk
      go_enter Try.func39, Try.ntmps39
      go_wp2_with fail
      go_quiet (fail)
      go_wp2_with fail
      go_quiet (fail)
      go_wp2_with fail
      go_ret
      refine E.out _ _ ?_ ⟨_, by rw [show ((p + n : Nat) : Int) = (p : Int) + (n : Int) from Int.natCast_add p n]⟩
      show Ending.returned (.slice (some ⟨b, off + p, none⟩) (p + n - p) (p + n - p)) = _
      rw [Nat.add_sub_cancel_left]
    · have B2 : Hid (∀ k, Blk ((((w.drewN k).setCell ⟨r, 1, none⟩ (.int .i64 (L : Int))).setCell ⟨r, 2, none⟩ (.bool true)).alloc (.cells Z 5)) r 67 (rcells (.slice A L c) L true iv fv m mb)) := fun k => (((HB.out.drewN k).set_ 1 _).set_ 2 _).alloc _
      have O2 : Hid (∀ k, Only (fun b => b = r) w ((((w.drewN k).setCell ⟨r, 1, none⟩ (.int .i64 (L : Int))).setCell ⟨r, 2, none⟩ (.bool true)).alloc (.cells Z 5))) := fun k => ((((Only.refl (fun b => b = r) w).drewN k).setCell (.inl rfl) _).setCell (.inl rfl) _).alloc _
      have E : Hid (∀ k, FieldPost Bf L n r (.slice A L c) iv fv m mb p false w (.returned (.slice (some ⟨w.heap.size, 0, none⟩) n n)) ((((w.drewN k).setCell ⟨r, 1, none⟩ (.int .i64 (L : Int))).setCell ⟨r, 2, none⟩ (.bool true)).alloc (.cells Z 5))) := by
        intro k
        have hz := zero_bytes (w := ((w.drewN k).setCell ⟨r, 1, none⟩ (.int .i64 (L : Int))).setCell ⟨r, 2, none⟩ (.bool true)) HZ.out (G := fun b => b ≠ r) (by simp [World.setCell]; omega)
        have e : (((w.drewN k).setCell ⟨r, 1, none⟩ (.int .i64 (L : Int))).setCell ⟨r, 2, none⟩ (.bool true)).heap.size = w.heap.size := by simp [World.setCell]
        rw [e] at hz
        exact ⟨_, _, L, true, rfl, B2.out k, O2.out k, hz, .inr (.inl ⟨rfl, by omega, rfl, rfl⟩)⟩
      clear B2 O2 HB HR HZ
      go_enter Try.func39, Try.ntmps39
      go_wp2_with fail
      go_quiet (fail)
      go_wp2_with fail
      go_ret
      exact E.out _
end Go.Proofs.Ytafhjpehkfcmjaa
