/- apart: how all of it stands. No walk here. -/
import Derived.Test.YtafhjpehkfcmjaaC3
set_option linter.unusedVariables false
set_option linter.unusedSimpArgs false
namespace Go.Proofs.Ytafhjpehkfcmjaa
open Go.ChangeShapes Go.WideShapes Go.RowKit
/-- What apart is handed. -/
structure AE where
  T : Nat
  A : Option Addr
  C : Option Addr
  V0 : Nat → Value
  V1 : Nat → Value
  V2 : Nat → Value
  n0 : Nat → Nat
  n1 : Nat → Nat
  n2 : Nat → Nat
  m : Nat → Int
  H : Nat
  s1 : Nat
structure HD (E : AE) (w : World) : Prop where
  ht : ∀ k, k < E.T → ∃ tb, E.A = some ⟨tb, 0, none⟩ ∧ TB w tb 28 ∧ tb < E.s1 ∧ w.cell? ⟨tb, k, none⟩ = some (E.V0 k)
  hc : ∀ k, k < E.T → ∃ cb, E.C = some ⟨cb, 0, none⟩ ∧ TB w cb 25 ∧ cb < E.s1 ∧ w.cell? ⟨cb, k * 3, none⟩ = some (E.V1 k) ∧ w.cell? ⟨cb, k * 3 + 1, none⟩ = some (E.V2 k) ∧ w.cell? ⟨cb, k * 3 + 2, none⟩ = some (.int .i64 (E.m k))
theorem HD.only {E : AE} {w w' : World} {F : Nat → Prop} (h : HD E w) (o : Only F w w') (hF : ∀ b, b < E.s1 → (TB w b 28 ∨ TB w b 25) → ¬ F b) : HD E w' :=
  ⟨fun k hk => let ⟨tb, e, h1, h2, h3⟩ := h.ht k hk; ⟨tb, e, h1.only o (hF tb h2 (.inl h1)), h2, (o.cell h1.lt (hF tb h2 (.inl h1))).trans h3⟩,
   fun k hk => let ⟨cb, e, h1, h2, h3, h4, h5⟩ := h.hc k hk; ⟨cb, e, h1.only o (hF cb h2 (.inr h1)), h2, (o.cell h1.lt (hF cb h2 (.inr h1))).trans h3, (o.cell h1.lt (hF cb h2 (.inr h1))).trans h4, (o.cell h1.lt (hF cb h2 (.inr h1))).trans h5⟩⟩
/-! ### marking -/
structure M1 (E : AE) (w wr : World) (i0 q0 i1 q1 i2 q2 : Nat) : Prop where
  f0 : F1P wr E.H 5 1 E.T E.V0 E.n0 (val0 E.n0) i0 q0
  f1 : F1P wr E.H 41 5 E.T E.V1 E.n1 (val1 E.n1) i1 q1
  f2 : F1P wr E.H 53 5 E.T E.V2 E.n2 (val2 E.n2) i2 q2
  hd : HD E wr
  below : Below E.H w wr
  sz : E.s1 ≤ wr.heap.size
section
variable {E : AE} {w wr w2 : World} {i0 q0 i1 q1 i2 q2 b c : Nat}
theorem one_set (w : World) (b q : Nat) (u : Value) : Only (fun x => x = b) w (w.setCell ⟨b, q, none⟩ u) := (Only.refl (fun x => x = b) w).setCell (.inl rfl) u
theorem HD.set_ {e : TypeId} (h : HD E wr) (hb : TB wr b e) (h1 : e ≠ 28) (h2 : e ≠ 25) (q : Nat) (u : Value) : HD E (wr.setCell ⟨b, q, none⟩ u) :=
  h.only (one_set wr b q u) fun x _ hx ex => by
    subst ex
    rcases hx with hx | hx
    · exact h1 (hb.one hx)
    · exact h2 (hb.one hx)
theorem size_set (w : World) (p : Addr) (u : Value) : (w.setCell p u).heap.size = w.heap.size := by simp [World.setCell]
theorem M1.set0 (h : M1 E w wr i0 q0 i1 q1 i2 q2) (hi : i0 < E.T) (hV : E.V0 i0 = .slice (some ⟨b, 0, none⟩) (E.n0 i0) c) (hq : q0 < E.n0 i0 * 1) (u : Value) (hu : u = val0 E.n0 i0 q0) : M1 E w (wr.setCell ⟨b, q0, none⟩ u) i0 (q0 + 1) i1 q1 i2 q2 := by
  have tb := h.f0.tb hi hV
  have o := one_set wr b q0 u
  exact ⟨h.f0.set_ hi hV hq u hu, h.f1.keep (tb_other tb.1 (by decide) o), h.f2.keep (tb_other tb.1 (by decide) o), h.hd.set_ tb.1 (by decide) (by decide) q0 u, h.below.setCell tb.2 u, by rw [size_set]; exact h.sz⟩
theorem M1.set1 (h : M1 E w wr i0 q0 i1 q1 i2 q2) (hi : i1 < E.T) (hV : E.V1 i1 = .slice (some ⟨b, 0, none⟩) (E.n1 i1) c) (hq : q1 < E.n1 i1 * 5) (u : Value) (hu : u = val1 E.n1 i1 q1) : M1 E w (wr.setCell ⟨b, q1, none⟩ u) i0 q0 i1 (q1 + 1) i2 q2 := by
  have tb := h.f1.tb hi hV
  have o := one_set wr b q1 u
  exact ⟨h.f0.keep (tb_other tb.1 (by decide) o), h.f1.set_ hi hV hq u hu, h.f2.keep (tb_other tb.1 (by decide) o), h.hd.set_ tb.1 (by decide) (by decide) q1 u, h.below.setCell tb.2 u, by rw [size_set]; exact h.sz⟩
theorem M1.set2 (h : M1 E w wr i0 q0 i1 q1 i2 q2) (hi : i2 < E.T) (hV : E.V2 i2 = .slice (some ⟨b, 0, none⟩) (E.n2 i2) c) (hq : q2 < E.n2 i2 * 5) (u : Value) (hu : u = val2 E.n2 i2 q2) : M1 E w (wr.setCell ⟨b, q2, none⟩ u) i0 q0 i1 q1 i2 (q2 + 1) := by
  have tb := h.f2.tb hi hV
  have o := one_set wr b q2 u
  exact ⟨h.f0.keep (tb_other tb.1 (by decide) o), h.f1.keep (tb_other tb.1 (by decide) o), h.f2.set_ hi hV hq u hu, h.hd.set_ tb.1 (by decide) (by decide) q2 u, h.below.setCell tb.2 u, by rw [size_set]; exact h.sz⟩
/-- The five stores of a head. -/
def putF (w : World) (g k : Nat) (x : Fn) : World := ((((w.setCell ⟨g, k * 5, none⟩ (.string x.name)).setCell ⟨g, k * 5 + 1, none⟩ (.int .i64 x.frame)).setCell ⟨g, k * 5 + 2, none⟩ (.int .i64 x.first)).setCell ⟨g, k * 5 + 3, none⟩ (.int .i64 x.count)).setCell ⟨g, k * 5 + 4, none⟩ (.int .i64 x.params)
theorem M1.put1 {a : Nat} (h : M1 E w wr i0 q0 i1 (a * 5) i2 q2) (hi : i1 < E.T) (hV : E.V1 i1 = .slice (some ⟨b, 0, none⟩) (E.n1 i1) c) (ha : a < E.n1 i1) : M1 E w (putI wr b a ⟨-1 - (i1 : Int), 0, 0, 0, a⟩) i0 q0 i1 ((a + 1) * 5) i2 q2 := by
  have e : insM E.n1 i1 a = ⟨-1 - (i1 : Int), 0, 0, 0, a⟩ := by rw [insM, if_pos ha]
  have v := fun t ht => val1_at E.n1 i1 a t ht
  rw [e] at v
  have r := ((((h.set1 hi hV (by omega) (.int .i64 (-1 - (i1 : Int))) ((v 0 (by omega)).symm)).set1 hi hV (by omega) (.int .i64 0) ((v 1 (by omega)).symm)).set1 hi hV (by omega) (.int .i64 0) ((v 2 (by omega)).symm)).set1 hi hV (by omega) (.int .i64 0) ((v 3 (by omega)).symm)).set1 hi hV (by omega) (.int .i64 a) ((v 4 (by omega)).symm)
  rw [show (a + 1) * 5 = a * 5 + 1 + 1 + 1 + 1 + 1 by omega]
  exact r
theorem M1.put2 {a : Nat} (h : M1 E w wr i0 q0 i1 q1 i2 (a * 5)) (hi : i2 < E.T) (hV : E.V2 i2 = .slice (some ⟨b, 0, none⟩) (E.n2 i2) c) (ha : a < E.n2 i2) : M1 E w (putF wr b a ⟨⟨#[]⟩, 0, -1 - (i2 : Int), a, 0⟩) i0 q0 i1 q1 i2 ((a + 1) * 5) := by
  have e : fnM E.n2 i2 a = ⟨⟨#[]⟩, 0, -1 - (i2 : Int), a, 0⟩ := by rw [fnM, if_pos ha]
  have v := fun t ht => val2_at E.n2 i2 a t ht
  rw [e] at v
  have r := ((((h.set2 hi hV (by omega) (.string ⟨#[]⟩) ((v 0 (by omega)).symm)).set2 hi hV (by omega) (.int .i64 0) ((v 1 (by omega)).symm)).set2 hi hV (by omega) (.int .i64 (-1 - (i2 : Int))) ((v 2 (by omega)).symm)).set2 hi hV (by omega) (.int .i64 a) ((v 3 (by omega)).symm)).set2 hi hV (by omega) (.int .i64 0) ((v 4 (by omega)).symm)
  rw [show (a + 1) * 5 = a * 5 + 1 + 1 + 1 + 1 + 1 by omega]
  exact r
theorem M1.done0 (h : M1 E w wr i0 (E.n0 i0 * 1) i1 q1 i2 q2) (hi : i0 < E.T) : M1 E w wr (i0 + 1) 0 i1 q1 i2 q2 := ⟨h.f0.done hi, h.f1, h.f2, h.hd, h.below, h.sz⟩
theorem M1.done1 (h : M1 E w wr i0 q0 i1 (E.n1 i1 * 5) i2 q2) (hi : i1 < E.T) : M1 E w wr i0 q0 (i1 + 1) 0 i2 q2 := ⟨h.f0, h.f1.done hi, h.f2, h.hd, h.below, h.sz⟩
theorem M1.done2 (h : M1 E w wr i0 q0 i1 q1 i2 (E.n2 i2 * 5)) (hi : i2 < E.T) : M1 E w wr i0 q0 i1 q1 (i2 + 1) 0 := ⟨h.f0, h.f1, h.f2.done hi, h.hd, h.below, h.sz⟩
end
/-! ### growing -/
/-- The three lists of what has been grown. -/
structure G3 (E : AE) (wr : World) (N : Nat) (r0 r1 r2 : Value) (W0 W1 W2 : Nat → Value) : Prop where
  o0 : wr.ownsRow E.s1 28 1 r0 N (cellsOf W0 N)
  o1 : wr.ownsRow E.s1 22 1 r1 N (cellsOf W1 N)
  o2 : wr.ownsRow E.s1 23 1 r2 N (cellsOf W2 N)
section
variable {E : AE} {w wr w2 : World} {N g : Nat} {r0 r1 r2 : Value} {W0 W1 W2 : Nat → Value} {e : TypeId}
theorem G3.keep (h : G3 E wr N r0 r1 r2 W0 W1 W2) (k0 : Only (fun b => ¬ TB wr b 28) wr w2) (k1 : Only (fun b => ¬ TB wr b 22) wr w2) (k2 : Only (fun b => ¬ TB wr b 23) wr w2) : G3 E w2 N r0 r1 r2 W0 W1 W2 := ⟨own_keep h.o0 k0, own_keep h.o1 k1, own_keep h.o2 k2⟩
/-- A step that turns one block of the type e, or a new one, keeps what is of another type. -/
theorem block_other {e' : TypeId} (o : Only (fun b => b = g) wr w2) (hg : TB wr g e ∨ wr.heap.size ≤ g) (hne : e ≠ e') : Only (fun b => ¬ TB wr b e') wr w2 :=
  o.mono fun x hx ex hx2 => by
    subst ex
    rcases hg with hg | hg
    · exact hne (hg.one hx2)
    · omega
theorem HD.block (h : HD E wr) (o : Only (fun b => b = g) wr w2) (hg : TB wr g e ∨ wr.heap.size ≤ g) (h1 : e ≠ 28) (h2 : e ≠ 25) : HD E w2 :=
  h.only o fun x _ hx ex => by
    subst ex
    rcases hg with hg | hg
    · rcases hx with hx | hx
      · exact h1 (hg.one hx)
      · exact h2 (hg.one hx)
    · rcases hx with hx | hx
      · have := hx.lt; omega
      · have := hx.lt; omega
theorem HD.far (h : HD E wr) (o : Only (fun b => b = g) wr w2) (hg : E.s1 ≤ g) : HD E w2 := h.only o fun x hx _ ex => by omega
end
structure M2 (E : AE) (w wr : World) (i : Nat) (r0 r1 r2 : Value) (W0 W1 W2 : Nat → Value) (B0 B1 B2 : Nat → Nat) : Prop where
  f0 : FA wr E.H 5 1 E.T E.V0 E.n0 (val0 E.n0) i W0 B0
  f1 : FA wr E.H 41 5 E.T E.V1 E.n1 (val1 E.n1) i W1 B1
  f2 : FA wr E.H 53 5 E.T E.V2 E.n2 (val2 E.n2) i W2 B2
  g3 : G3 E wr i r0 r1 r2 W0 W1 W2
  hd : HD E wr
  below : Below E.H w wr
  sz : E.H ≤ E.s1 ∧ E.s1 ≤ wr.heap.size
/-- While the i-th rows are grown; q: how many of the three lists hold them already. -/
structure MG (E : AE) (w wr : World) (i t0 t1 t2 : Nat) (g0 g1 g2 : Value) (N0 N1 N2 : Nat) (r0 r1 r2 : Value) (W0 W1 W2 : Nat → Value) (B0 B1 B2 : Nat → Nat) : Prop where
  f0 : FG wr E.H 5 1 E.T E.V0 E.n0 (val0 E.n0) i W0 B0 g0 t0
  f1 : FG wr E.H 41 5 E.T E.V1 E.n1 (val1 E.n1) i W1 B1 g1 t1
  f2 : FG wr E.H 53 5 E.T E.V2 E.n2 (val2 E.n2) i W2 B2 g2 t2
  o0 : wr.ownsRow E.s1 28 1 r0 N0 (cellsOf (updV W0 i g0) N0)
  o1 : wr.ownsRow E.s1 22 1 r1 N1 (cellsOf (updV W1 i g1) N1)
  o2 : wr.ownsRow E.s1 23 1 r2 N2 (cellsOf (updV W2 i g2) N2)
  hd : HD E wr
  below : Below E.H w wr
  sz : E.H ≤ E.s1 ∧ E.s1 ≤ wr.heap.size
theorem cellsOf_congr {f g : Nat → Value} {n : Nat} (h : ∀ j, j < n → f j = g j) : cellsOf f n = cellsOf g n := List.map_congr_left fun j hj => h j (List.mem_range.1 hj)
theorem cells_upd (W : Nat → Value) (i : Nat) (g g' : Value) : cellsOf (updV W i g) i = cellsOf (updV W i g') i := cellsOf_congr fun j hj => by rw [updV_off _ _ (by omega), updV_off _ _ (by omega)]
theorem cells_upd0 (W : Nat → Value) (i : Nat) (g : Value) : cellsOf (updV W i g) i = cellsOf W i := cellsOf_congr fun j hj => by rw [updV_off _ _ (by omega)]
section
variable {E : AE} {w wr w2 : World} {i t0 t1 t2 N0 N1 N2 gg cap : Nat} {g0 g1 g2 r0 r1 r2 : Value} {W0 W1 W2 : Nat → Value} {B0 B1 B2 : Nat → Nat}
theorem M2.start {W0 W1 W2 : Nat → Value} {B0 B1 B2 : Nat → Nat} (h : M1 E w wr E.T 0 E.T 0 E.T 0) (hs : E.H ≤ E.s1) : M2 E w wr 0 (.slice none 0 0) (.slice none 0 0) (.slice none 0 0) W0 W1 W2 B0 B1 B2 :=
  ⟨h.f0.fin _ _, h.f1.fin _ _, h.f2.fin _ _, ⟨own_nil _ _ _ _, own_nil _ _ _ _, own_nil _ _ _ _⟩, h.hd, h.below, hs, h.sz⟩
theorem M2.begin (h : M2 E w wr i r0 r1 r2 W0 W1 W2 B0 B1 B2) (hi : i < E.T) : MG E w wr i 0 0 0 (E.V0 i) (E.V1 i) (E.V2 i) i i i r0 r1 r2 W0 W1 W2 B0 B1 B2 :=
  ⟨h.f0.begin hi, h.f1.begin hi, h.f2.begin hi, by rw [cells_upd0]; exact h.g3.o0, by rw [cells_upd0]; exact h.g3.o1, by rw [cells_upd0]; exact h.g3.o2, h.hd, h.below, h.sz⟩
theorem below_block {H : Nat} (h : Below H w wr) (hH : H ≤ wr.heap.size) (o : Only (fun b => b = gg) wr w2) (hg : H ≤ gg) : Below H w w2 := h.trans (o.toBelow hH fun k hk e => by omega)
theorem grow_ge {e : TypeId} {size n H : Nat} {v : Value} {xs : List Value} (h : wr.ownsRow H e size v n xs) (hH : H ≤ wr.heap.size) (hat : v.ownBlock = some gg ∨ wr.heap.size ≤ gg) : (TB wr gg e ∨ wr.heap.size ≤ gg) ∧ H ≤ gg := by
  rcases hat with e1 | e1
  · exact ⟨.inl (own_tb h e1), (World.ownsRow.lt h gg e1).1⟩
  · exact ⟨.inr e1, by omega⟩
theorem MG.app0 {xs : List Value} (h : MG E w wr i t0 t1 t2 g0 g1 g2 i i i r0 r1 r2 W0 W1 W2 B0 B1 B2) (hx : xs = [.int .u8 ((i : Int) + 101)])
    (hown : w2.ownsRow E.H 5 1 (.slice (some ⟨gg, 0, none⟩) (E.n0 i + t0 + 1) cap) (E.n0 i + t0 + 1) (cellsOf (val0 E.n0 i) ((E.n0 i + t0) * 1) ++ xs)) (o : Only (fun b => b = gg) wr w2) (hat : g0.ownBlock = some gg ∨ wr.heap.size ≤ gg) :
    MG E w w2 i (t0 + 1) t1 t2 (.slice (some ⟨gg, 0, none⟩) (E.n0 i + t0 + 1) cap) g1 g2 i i i r0 r1 r2 W0 W1 W2 B0 B1 B2 := by
  subst hx
  obtain ⟨hg, hH⟩ := grow_ge h.f0.gown (Nat.le_trans h.sz.1 h.sz.2) hat
  exact ⟨h.f0.app (cells_one0 E.n0 i t0) hown o hat, h.f1.keep (block_other o hg (by decide)), h.f2.keep (block_other o hg (by decide)), by rw [cells_upd W0 i _ g0]; exact own_keep h.o0 (block_other o hg (by decide)), own_keep h.o1 (block_other o hg (by decide)), own_keep h.o2 (block_other o hg (by decide)), h.hd.block o hg (by decide) (by decide), below_block h.below (Nat.le_trans h.sz.1 h.sz.2) o hH, h.sz.1, Nat.le_trans h.sz.2 o.size⟩
theorem MG.app1 {xs : List Value} (h : MG E w wr i t0 t1 t2 g0 g1 g2 i i i r0 r1 r2 W0 W1 W2 B0 B1 B2) (hx : xs = [.int .i64 (-1000000 - (i : Int)), .int .i64 0, .int .i64 0, .int .i64 0, .int .i64 0])
    (hown : w2.ownsRow E.H 41 5 (.slice (some ⟨gg, 0, none⟩) (E.n1 i + t1 + 1) cap) (E.n1 i + t1 + 1) (cellsOf (val1 E.n1 i) ((E.n1 i + t1) * 5) ++ xs)) (o : Only (fun b => b = gg) wr w2) (hat : g1.ownBlock = some gg ∨ wr.heap.size ≤ gg) :
    MG E w w2 i t0 (t1 + 1) t2 g0 (.slice (some ⟨gg, 0, none⟩) (E.n1 i + t1 + 1) cap) g2 i i i r0 r1 r2 W0 W1 W2 B0 B1 B2 := by
  subst hx
  obtain ⟨hg, hH⟩ := grow_ge h.f1.gown (Nat.le_trans h.sz.1 h.sz.2) hat
  exact ⟨h.f0.keep (block_other o hg (by decide)), h.f1.app (cells_one1 E.n1 i t1) hown o hat, h.f2.keep (block_other o hg (by decide)), own_keep h.o0 (block_other o hg (by decide)), by rw [cells_upd W1 i _ g1]; exact own_keep h.o1 (block_other o hg (by decide)), own_keep h.o2 (block_other o hg (by decide)), h.hd.block o hg (by decide) (by decide), below_block h.below (Nat.le_trans h.sz.1 h.sz.2) o hH, h.sz.1, Nat.le_trans h.sz.2 o.size⟩
theorem MG.app2 {xs : List Value} (h : MG E w wr i t0 t1 t2 g0 g1 g2 i i i r0 r1 r2 W0 W1 W2 B0 B1 B2) (hx : xs = [.string ⟨#[]⟩, .int .i64 0, .int .i64 (-1000000 - (i : Int)), .int .i64 0, .int .i64 0])
    (hown : w2.ownsRow E.H 53 5 (.slice (some ⟨gg, 0, none⟩) (E.n2 i + t2 + 1) cap) (E.n2 i + t2 + 1) (cellsOf (val2 E.n2 i) ((E.n2 i + t2) * 5) ++ xs)) (o : Only (fun b => b = gg) wr w2) (hat : g2.ownBlock = some gg ∨ wr.heap.size ≤ gg) :
    MG E w w2 i t0 t1 (t2 + 1) g0 g1 (.slice (some ⟨gg, 0, none⟩) (E.n2 i + t2 + 1) cap) i i i r0 r1 r2 W0 W1 W2 B0 B1 B2 := by
  subst hx
  obtain ⟨hg, hH⟩ := grow_ge h.f2.gown (Nat.le_trans h.sz.1 h.sz.2) hat
  exact ⟨h.f0.keep (block_other o hg (by decide)), h.f1.keep (block_other o hg (by decide)), h.f2.app (cells_one2 E.n2 i t2) hown o hat, own_keep h.o0 (block_other o hg (by decide)), own_keep h.o1 (block_other o hg (by decide)), by rw [cells_upd W2 i _ g2]; exact own_keep h.o2 (block_other o hg (by decide)), h.hd.block o hg (by decide) (by decide), below_block h.below (Nat.le_trans h.sz.1 h.sz.2) o hH, h.sz.1, Nat.le_trans h.sz.2 o.size⟩
theorem cells_push (W : Nat → Value) (i : Nat) (g : Value) : cellsOf (updV W i g) i ++ [g] = cellsOf (updV W i g) (i + 1) := by rw [cellsOf_succ, updV_same]
theorem MG.push0 {r : Value} {n : Nat} (h : MG E w wr i t0 t1 t2 g0 g1 g2 i N1 N2 r0 r1 r2 W0 W1 W2 B0 B1 B2) (hown : w2.ownsRow E.s1 28 1 r (i + 1) (cellsOf (updV W0 i g0) i ++ [g0])) (o : Only (fun b => b = gg) wr w2) (hat : r0.ownBlock = some gg ∨ wr.heap.size ≤ gg) :
    MG E w w2 i t0 t1 t2 g0 g1 g2 (i + 1) N1 N2 r r1 r2 W0 W1 W2 B0 B1 B2 := by
  obtain ⟨hg, hH⟩ := grow_ge h.o0 h.sz.2 hat
  exact ⟨h.f0.keep (block_other o hg (by decide)), h.f1.keep (block_other o hg (by decide)), h.f2.keep (block_other o hg (by decide)), by rw [← cells_push]; exact hown, own_keep h.o1 (block_other o hg (by decide)), own_keep h.o2 (block_other o hg (by decide)), h.hd.far o hH, below_block h.below (Nat.le_trans h.sz.1 h.sz.2) o (Nat.le_trans h.sz.1 hH), h.sz.1, Nat.le_trans h.sz.2 o.size⟩
theorem MG.push1 {r : Value} {n : Nat} (h : MG E w wr i t0 t1 t2 g0 g1 g2 N0 i N2 r0 r1 r2 W0 W1 W2 B0 B1 B2) (hown : w2.ownsRow E.s1 22 1 r (i + 1) (cellsOf (updV W1 i g1) i ++ [g1])) (o : Only (fun b => b = gg) wr w2) (hat : r1.ownBlock = some gg ∨ wr.heap.size ≤ gg) :
    MG E w w2 i t0 t1 t2 g0 g1 g2 N0 (i + 1) N2 r0 r r2 W0 W1 W2 B0 B1 B2 := by
  obtain ⟨hg, hH⟩ := grow_ge h.o1 h.sz.2 hat
  exact ⟨h.f0.keep (block_other o hg (by decide)), h.f1.keep (block_other o hg (by decide)), h.f2.keep (block_other o hg (by decide)), own_keep h.o0 (block_other o hg (by decide)), by rw [← cells_push]; exact hown, own_keep h.o2 (block_other o hg (by decide)), h.hd.far o hH, below_block h.below (Nat.le_trans h.sz.1 h.sz.2) o (Nat.le_trans h.sz.1 hH), h.sz.1, Nat.le_trans h.sz.2 o.size⟩
theorem MG.push2 {r : Value} {n : Nat} (h : MG E w wr i t0 t1 t2 g0 g1 g2 N0 N1 i r0 r1 r2 W0 W1 W2 B0 B1 B2) (hown : w2.ownsRow E.s1 23 1 r (i + 1) (cellsOf (updV W2 i g2) i ++ [g2])) (o : Only (fun b => b = gg) wr w2) (hat : r2.ownBlock = some gg ∨ wr.heap.size ≤ gg) :
    MG E w w2 i t0 t1 t2 g0 g1 g2 N0 N1 (i + 1) r0 r1 r W0 W1 W2 B0 B1 B2 := by
  obtain ⟨hg, hH⟩ := grow_ge h.o2 h.sz.2 hat
  exact ⟨h.f0.keep (block_other o hg (by decide)), h.f1.keep (block_other o hg (by decide)), h.f2.keep (block_other o hg (by decide)), own_keep h.o0 (block_other o hg (by decide)), own_keep h.o1 (block_other o hg (by decide)), by rw [← cells_push]; exact hown, h.hd.far o hH, below_block h.below (Nat.le_trans h.sz.1 h.sz.2) o (Nat.le_trans h.sz.1 hH), h.sz.1, Nat.le_trans h.sz.2 o.size⟩
theorem MG.done {b0 b1 b2 c0 c1 c2 : Nat} (h : MG E w wr i 60 60 60 (.slice (some ⟨b0, 0, none⟩) (E.n0 i + 60) c0) (.slice (some ⟨b1, 0, none⟩) (E.n1 i + 60) c1) (.slice (some ⟨b2, 0, none⟩) (E.n2 i + 60) c2) (i + 1) (i + 1) (i + 1) r0 r1 r2 W0 W1 W2 B0 B1 B2) :
    M2 E w wr (i + 1) r0 r1 r2 (updV W0 i (.slice (some ⟨b0, 0, none⟩) (E.n0 i + 60) c0)) (updV W1 i (.slice (some ⟨b1, 0, none⟩) (E.n1 i + 60) c1)) (updV W2 i (.slice (some ⟨b2, 0, none⟩) (E.n2 i + 60) c2)) (updV B0 i b0) (updV B1 i b1) (updV B2 i b2) :=
  ⟨h.f0.done, h.f1.done, h.f2.done, ⟨h.o0, h.o1, h.o2⟩, h.hd, h.below, h.sz⟩
theorem M2.on (h : M2 E w wr i r0 r1 r2 W0 W1 W2 B0 B1 B2) (hb : Below wr.heap.size wr w2) : M2 E w w2 i r0 r1 r2 W0 W1 W2 B0 B1 B2 :=
  have k := fun e' : TypeId => Only.ofBelow (F := fun b => ¬ TB wr b e') hb
  ⟨h.f0.keep (k 5), h.f1.keep (k 41), h.f2.keep (k 53), h.g3.keep (k 28) (k 22) (k 23), h.hd.only (Only.ofBelow (F := fun _ => False) hb) (fun _ _ _ h => h), h.below.trans (hb.mono (Nat.le_trans h.sz.1 h.sz.2)), h.sz.1, Nat.le_trans h.sz.2 hb.size⟩
end
end Go.Proofs.Ytafhjpehkfcmjaa
