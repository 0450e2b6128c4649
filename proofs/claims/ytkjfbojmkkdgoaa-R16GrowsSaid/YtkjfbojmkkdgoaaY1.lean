/- Code that is lent: rows of its own, a mark behind each. -/
import Derived.Test.YtkjfbojmkkdgoaaAp
set_option linter.unusedVariables false
set_option linter.unusedSimpArgs false
namespace Go.Proofs.Ytkjfbojmkkdgoaa
open Go.RowKit
def updN {α : Type} (X : Nat → α) (k : Nat) (x : α) (i : Nat) : α := if i = k then x else X i
theorem updN_eq {α : Type} (X : Nat → α) (k : Nat) (x : α) : updN X k x k = x := if_pos rfl
theorem updN_ne {α : Type} (X : Nat → α) {k i : Nat} (x : α) (h : i ≠ k) : updN X k x i = X i := if_neg h
theorem manyC_congr {α : Type} (V : α → List Value) {X Y : Nat → α} : ∀ n, (∀ i, i < n → X i = Y i) → manyC V X n = manyC V Y n
  | 0, _ => rfl
  | n + 1, h => by rw [manyC, manyC, manyC_congr V n fun i hi => h i (by omega), h n (by omega)]
theorem manyC_mark {α : Type} (V : α → List Value) (X : Nat → α) (n : Nat) (x : α) : manyC V X n ++ V x = manyC V (updN X n x) (n + 1) := by
  rw [manyC, updN_eq, manyC_congr (Y := updN X n x) V n fun i hi => (updN_ne X x (show i ≠ n by omega)).symm]
theorem manyC_put {α : Type} {V : α → List Value} (hV : ∀ x, (V x).length = 5) (X : Nat → α) (n k : Nat) (x : α) (a b c d e : Value) (hx : V x = [a, b, c, d, e]) (hk : k < n) :
    (((((manyC V X n).set (k * 5) a).set (k * 5 + 1) b).set (k * 5 + 2) c).set (k * 5 + 3) d).set (k * 5 + 4) e = manyC V (updN X k x) n := by
  apply List.ext_getElem?
  intro j
  have hl := manyC_length hV X n
  have hl2 := manyC_length hV (updN X k x) n
  by_cases hj : j < n * 5
  · have e1 := manyC_get hV X n (j / 5) (j % 5) (by omega) (by omega)
    have e2 := manyC_get hV (updN X k x) n (j / 5) (j % 5) (by omega) (by omega)
    rw [show j / 5 * 5 + j % 5 = j by omega] at e1 e2
    rw [e2]
    simp only [List.getElem?_set, List.length_set, hl]
    by_cases he : j / 5 = k
    · rw [he, updN_eq, hx]
      have hr : j % 5 = 0 ∨ j % 5 = 1 ∨ j % 5 = 2 ∨ j % 5 = 3 ∨ j % 5 = 4 := by omega
      rcases hr with hr | hr | hr | hr | hr <;> rw [hr]
      · rw [if_neg (by omega), if_neg (by omega), if_neg (by omega), if_neg (by omega), if_pos (by omega), if_pos (by omega)]; rfl
      · rw [if_neg (by omega), if_neg (by omega), if_neg (by omega), if_pos (by omega), if_pos (by omega)]; rfl
      · rw [if_neg (by omega), if_neg (by omega), if_pos (by omega), if_pos (by omega)]; rfl
      · rw [if_neg (by omega), if_pos (by omega), if_pos (by omega)]; rfl
      · rw [if_pos (by omega), if_pos (by omega)]; rfl
    · rw [updN_ne _ _ he, ← e1, if_neg (by omega), if_neg (by omega), if_neg (by omega), if_neg (by omega), if_neg (by omega)]
  · rw [List.getElem?_eq_none (by simp; omega), List.getElem?_eq_none (by omega)]
theorem Row.put5 {w : World} {F : Nat → Prop} {e : TypeId} {g n cap : Nat} {α : Type} {V : α → List Value} (hV : ∀ x, (V x).length = 5) {X : Nat → α} (h : Row w F e 5 (.slice (some ⟨g, 0, none⟩) n cap) n (manyC V X n)) (k : Nat) (x : α) (a b c d f : Value) (hx : V x = [a, b, c, d, f]) (hk : k < n) :
    Row (((((w.setCell ⟨g, k * 5, none⟩ a).setCell ⟨g, k * 5 + 1, none⟩ b).setCell ⟨g, k * 5 + 2, none⟩ c).setCell ⟨g, k * 5 + 3, none⟩ d).setCell ⟨g, k * 5 + 4, none⟩ f) F e 5 (.slice (some ⟨g, 0, none⟩) n cap) n (manyC V (updN X k x) n) := by
  rw [← manyC_put hV X n k x a b c d f hx hk]
  exact ((((h.stored _ _).stored _ _).stored _ _).stored _ _).stored _ _
/-- Lent code. -/
structure LX (w : World) (F : Nat → Prop) (b1 k1 b2 k2 ni nf : Nat) (X : Nat → Ins) (Fs : Nat → Fn) : Prop where
  r1 : Row w F 54 5 (.slice (some ⟨b1, 0, none⟩) (ni + 1) k1) (ni + 1) (manyC insL X (ni + 1))
  r2 : Row w F 61 5 (.slice (some ⟨b2, 0, none⟩) (nf + 1) k2) (nf + 1) (manyC fnL Fs (nf + 1))
  i1 : ∀ i, i < ni + 1 → InsIn (X i)
  i2 : ∀ i, i < nf + 1 → FnIn (Fs i) ∧ (Fs i).name.size ≤ 9223372036854775807
  n1 : ni ≤ 1000000000
  n2 : nf ≤ 1000000000
section
variable {w w' : World} {F G : Nat → Prop} {b1 k1 b2 k2 ni nf : Nat} {X : Nat → Ins} {Fs : Nat → Fn}
theorem LX.ne (h : LX w F b1 k1 b2 k2 ni nf X Fs) : b1 ≠ b2 := by
  rcases h.r1.ne_type h.r2 (by decide) with e | e
  · cases e
  · intro he
    exact e (by rw [he]; rfl)
theorem LX.only (h : LX w F b1 k1 b2 k2 ni nf X Fs) (o : Only G w w') (hG : ∀ b, F b → ¬ G b) : LX w' F b1 k1 b2 k2 ni nf X Fs :=
  ⟨h.r1.only o fun b hb => hG b (h.r1.2 b hb), h.r2.only o fun b hb => hG b (h.r2.2 b hb), h.i1, h.i2, h.n1, h.n2⟩
theorem LX.tr {F' : Nat → Prop} (h : LX w F b1 k1 b2 k2 ni nf X Fs) (o : Only G w w') (hd : ∀ b, b < w.heap.size → F b → ¬ G b ∧ F' b) : LX w' F' b1 k1 b2 k2 ni nf X Fs :=
  ⟨h.r1.tr o hd, h.r2.tr o hd, h.i1, h.i2, h.n1, h.n2⟩
theorem LX.c1 (h : LX w F b1 k1 b2 k2 ni nf X Fs) {i : Nat} (hi : i < ni + 1) : w.cell? ⟨b1, i * 5, none⟩ = some (.int .i64 (X i).op) ∧ w.cell? ⟨b1, i * 5 + 1, none⟩ = some (.int .i64 (X i).a) ∧ w.cell? ⟨b1, i * 5 + 2, none⟩ = some (.int .i64 (X i).b) ∧ w.cell? ⟨b1, i * 5 + 3, none⟩ = some (.int .i64 (X i).c) ∧ w.cell? ⟨b1, i * 5 + 4, none⟩ = some (.int .i64 (X i).n) := by
  have k := fun r (hr : r < 5) (u : Value) (hu : (insL (X i))[r]? = some u) => h.r1.cell (i := i * 5 + r) ((manyC_get insL_len X (ni + 1) i r hi hr).trans hu)
  exact ⟨k 0 (by decide) _ rfl, k 1 (by decide) _ rfl, k 2 (by decide) _ rfl, k 3 (by decide) _ rfl, k 4 (by decide) _ rfl⟩
theorem LX.c2 (h : LX w F b1 k1 b2 k2 ni nf X Fs) {i : Nat} (hi : i < nf + 1) : w.cell? ⟨b2, i * 5, none⟩ = some (.string (Fs i).name) ∧ w.cell? ⟨b2, i * 5 + 1, none⟩ = some (.int .i64 (Fs i).frame) ∧ w.cell? ⟨b2, i * 5 + 2, none⟩ = some (.int .i64 (Fs i).first) ∧ w.cell? ⟨b2, i * 5 + 3, none⟩ = some (.int .i64 (Fs i).count) ∧ w.cell? ⟨b2, i * 5 + 4, none⟩ = some (.int .i64 (Fs i).params) := by
  have k := fun r (hr : r < 5) (u : Value) (hu : (fnL (Fs i))[r]? = some u) => h.r2.cell (i := i * 5 + r) ((manyC_get fnL_len Fs (nf + 1) i r hi hr).trans hu)
  exact ⟨k 0 (by decide) _ rfl, k 1 (by decide) _ rfl, k 2 (by decide) _ rfl, k 3 (by decide) _ rfl, k 4 (by decide) _ rfl⟩
theorem LX.il (h : LX w F b1 k1 b2 k2 ni nf X Fs) : IL w F (some ⟨b1, 0, none⟩) ni X := by
  have hn := h.n1
  refine ⟨by omega, fun i hi => ?_⟩
  have hf := h.r1.2 b1 rfl
  obtain ⟨c0, c1, c2, c3, c4⟩ := h.c1 (i := i) (by omega)
  exact ⟨h.i1 i (by omega), b1, 0, rfl, hf, h.r1.lt rfl, by rw [Nat.zero_add]; exact c0, by rw [Nat.zero_add]; exact c1, by rw [Nat.zero_add]; exact c2, by rw [Nat.zero_add]; exact c3, by rw [Nat.zero_add]; exact c4⟩
theorem LX.fl (h : LX w F b1 k1 b2 k2 ni nf X Fs) : FL w F (some ⟨b2, 0, none⟩) nf Fs := by
  have hn := h.n2
  refine ⟨by omega, fun i hi => ?_⟩
  have hf := h.r2.2 b2 rfl
  obtain ⟨c0, c1, c2, c3, c4⟩ := h.c2 (i := i) (by omega)
  exact ⟨(h.i2 i (by omega)).1, (h.i2 i (by omega)).2, b2, 0, rfl, hf, h.r2.lt rfl, by rw [Nat.zero_add]; exact c0, by rw [Nat.zero_add]; exact c1, by rw [Nat.zero_add]; exact c2, by rw [Nat.zero_add]; exact c3, by rw [Nat.zero_add]; exact c4⟩
theorem LX.put1 (h : LX w F b1 k1 b2 k2 ni nf X Fs) (k : Nat) (x : Ins) (hx : InsIn x) (hk : k < ni + 1) : LX (((((w.setCell ⟨b1, k * 5, none⟩ (.int .i64 x.op)).setCell ⟨b1, k * 5 + 1, none⟩ (.int .i64 x.a)).setCell ⟨b1, k * 5 + 2, none⟩ (.int .i64 x.b)).setCell ⟨b1, k * 5 + 3, none⟩ (.int .i64 x.c)).setCell ⟨b1, k * 5 + 4, none⟩ (.int .i64 x.n)) F b1 k1 b2 k2 ni nf (updN X k x) Fs := by
  have o := (((((Only.refl (fun b => b = b1) w).cells (p := ⟨b1, k * 5, none⟩) rfl (.int .i64 x.op)).cells (p := ⟨b1, k * 5 + 1, none⟩) rfl (.int .i64 x.a)).cells (p := ⟨b1, k * 5 + 2, none⟩) rfl (.int .i64 x.b)).cells (p := ⟨b1, k * 5 + 3, none⟩) rfl (.int .i64 x.c)).cells (p := ⟨b1, k * 5 + 4, none⟩) rfl (.int .i64 x.n)
  refine ⟨h.r1.put5 insL_len k x _ _ _ _ _ rfl hk, h.r2.only o fun b hb e => ?_, fun i hi => ?_, h.i2, h.n1, h.n2⟩
  · have hb' : b2 = b := Option.some.inj hb
    have e' : b = b1 := e
    exact h.ne (e'.symm.trans hb'.symm)
  · unfold updN
    split
    · exact hx
    · exact h.i1 i hi
theorem LX.put2 (h : LX w F b1 k1 b2 k2 ni nf X Fs) (k : Nat) (x : Fn) (hx : FnIn x ∧ x.name.size ≤ 9223372036854775807) (hk : k < nf + 1) : LX (((((w.setCell ⟨b2, k * 5, none⟩ (.string x.name)).setCell ⟨b2, k * 5 + 1, none⟩ (.int .i64 x.frame)).setCell ⟨b2, k * 5 + 2, none⟩ (.int .i64 x.first)).setCell ⟨b2, k * 5 + 3, none⟩ (.int .i64 x.count)).setCell ⟨b2, k * 5 + 4, none⟩ (.int .i64 x.params)) F b1 k1 b2 k2 ni nf X (updN Fs k x) := by
  have o := (((((Only.refl (fun b => b = b2) w).cells (p := ⟨b2, k * 5, none⟩) rfl (.string x.name)).cells (p := ⟨b2, k * 5 + 1, none⟩) rfl (.int .i64 x.frame)).cells (p := ⟨b2, k * 5 + 2, none⟩) rfl (.int .i64 x.first)).cells (p := ⟨b2, k * 5 + 3, none⟩) rfl (.int .i64 x.count)).cells (p := ⟨b2, k * 5 + 4, none⟩) rfl (.int .i64 x.params)
  refine ⟨h.r1.only o fun b hb e => ?_, h.r2.put5 fnL_len k x _ _ _ _ _ rfl hk, h.i1, fun i hi => ?_, h.n1, h.n2⟩
  · have hb' : b1 = b := Option.some.inj hb
    have e' : b = b2 := e
    exact h.ne (hb'.trans e')
  · unfold updN
    split
    · exact hx
    · exact h.i2 i hi
theorem LX.congr {X' : Nat → Ins} {Fs' : Nat → Fn} (h : LX w F b1 k1 b2 k2 ni nf X Fs) (h1 : ∀ i, i < ni + 1 → X i = X' i) (h2 : ∀ i, i < nf + 1 → Fs i = Fs' i) : LX w F b1 k1 b2 k2 ni nf X' Fs' :=
  ⟨manyC_congr insL (ni + 1) h1 ▸ h.r1, manyC_congr fnL (nf + 1) h2 ▸ h.r2, fun i hi => h1 i hi ▸ h.i1 i hi, fun i hi => h2 i hi ▸ h.i2 i hi, h.n1, h.n2⟩
end
end Go.Proofs.Ytkjfbojmkkdgoaa
