/- How the document's own heap stands in memory, and what its stores and appends make of it. No program here. -/
import Derived.Test.YtoakmifihofpeaaMem
set_option linter.unusedVariables false
set_option linter.unusedSimpArgs false
namespace Go.Proofs.Ytoakmifihofpeaa
open Go.RowKit
/-- The document's heap: N blocks: address, how many words, and three lists: the near words, where far ones are, what they are. -/
structure RH where
  N : Nat
  ad : Nat → Int
  nn : Nat → Int
  X : Nat → Nat → List Int
  tk : Int
def RH.empty : RH := ⟨0, fun _ => 0, fun _ => 0, fun _ _ => [], 0⟩
def upd2 {α : Type} (f : Nat → Nat → α) (k j : Nat) (x : α) : Nat → Nat → α := fun a b => if a = k ∧ b = j then x else f a b
theorem upd2_same {α : Type} (f : Nat → Nat → α) (k j : Nat) (x : α) : upd2 f k j x k j = x := by simp [upd2]
theorem upd2_other {α : Type} (f : Nat → Nat → α) (k j : Nat) (x : α) {a b : Nat} (h : ¬ (a = k ∧ b = j)) : upd2 f k j x a b = f a b := by simp [upd2, h]
def RH.setX (r : RH) (k j : Nat) (l : List Int) : RH := { r with X := upd2 r.X k j l }
def RH.push (r : RH) (a n : Int) : RH := ⟨r.N + 1, fun k => if k = r.N then a else r.ad k, fun k => if k = r.N then n else r.nn k, fun k j => if k = r.N then [] else r.X k j, r.tk⟩
def RH.took (r : RH) (t : Int) : RH := { r with tk := t }
def cellF (r : RH) (V : Nat → Nat → Value) (i : Nat) : Value :=
  if i % 5 = 0 then .int .i64 (r.ad (i / 5)) else if i % 5 = 1 then .int .i64 (r.nn (i / 5)) else V (i / 5) (i % 5 - 2)
def cells (r : RH) (V : Nat → Nat → Value) : List Value := (List.range (r.N * 5)).map (cellF r V)
theorem cells_get (r : RH) (V : Nat → Nat → Value) {i : Nat} (h : i < r.N * 5) : (cells r V)[i]? = some (cellF r V i) := by simp [cells, h]
theorem cells_ad (r : RH) (V : Nat → Nat → Value) {k : Nat} (h : k < r.N) : (cells r V)[k * 5]? = some (.int .i64 (r.ad k)) := by
  rw [cells_get r V (by omega), cellF, if_pos (by omega), show k * 5 / 5 = k by omega]
theorem cells_nn (r : RH) (V : Nat → Nat → Value) {k : Nat} (h : k < r.N) : (cells r V)[k * 5 + 1]? = some (.int .i64 (r.nn k)) := by
  rw [cells_get r V (by omega), cellF, if_neg (by omega), if_pos (by omega), show (k * 5 + 1) / 5 = k by omega]
theorem cells_V (r : RH) (V : Nat → Nat → Value) {k j : Nat} (h : k < r.N) (hj : j < 3) : (cells r V)[k * 5 + 2 + j]? = some (V k j) := by
  rw [cells_get r V (by omega), cellF, if_neg (by omega), if_neg (by omega), show (k * 5 + 2 + j) / 5 = k by omega, show (k * 5 + 2 + j) % 5 - 2 = j by omega]
theorem cells_set (r : RH) (V : Nat → Nat → Value) (k j : Nat) (hk : k < r.N) (hj : j < 3) (u : Value) (l : List Int) : (cells r V).set (k * 5 + 2 + j) u = cells (r.setX k j l) (upd2 V k j u) := by
  apply List.ext_getElem?
  intro i
  rw [List.getElem?_set]
  have hN : (r.setX k j l).N = r.N := rfl
  by_cases hi : i < r.N * 5
  · rw [cells_get (r.setX k j l) _ (by rw [hN]; exact hi), cells_get r V hi]
    by_cases he : k * 5 + 2 + j = i
    · subst he
      have hl : k * 5 + 2 + j < (cells r V).length := by simp [cells]; omega
      rw [if_pos rfl, if_pos hl, cellF, if_neg (by omega), if_neg (by omega), show (k * 5 + 2 + j) / 5 = k by omega, show (k * 5 + 2 + j) % 5 - 2 = j by omega, upd2_same]
    · rw [if_neg he, cellF, cellF]
      congr 1
      by_cases h0 : i % 5 = 0
      · rw [if_pos h0, if_pos h0]; rfl
      · rw [if_neg h0, if_neg h0]
        by_cases h1 : i % 5 = 1
        · rw [if_pos h1, if_pos h1]; rfl
        · rw [if_neg h1, if_neg h1, upd2_other]
          omega
  · have h1 : (cells r V)[i]? = none := by simp [cells]; omega
    have h2 : (cells (r.setX k j l) (upd2 V k j u))[i]? = none := by simp [cells, hN]; omega
    rw [h1, h2]
    split
    · simp [cells]; omega
    · rfl
theorem cells_push (r : RH) (V : Nat → Nat → Value) (a n : Int) :
    cells r V ++ [.int .i64 a, .int .i64 n, .slice none 0 0, .slice none 0 0, .slice none 0 0] = cells (r.push a n) (fun k j => if k = r.N then .slice none 0 0 else V k j) := by
  apply List.ext_getElem?
  intro i
  have hN : (r.push a n).N = r.N + 1 := rfl
  have hl : (cells r V).length = r.N * 5 := by simp [cells]
  by_cases hi : i < r.N * 5
  · rw [List.getElem?_append_left (by rw [hl]; exact hi), cells_get r V hi, cells_get (r.push a n) _ (by rw [hN]; omega), cellF, cellF]
    have hne : i / 5 ≠ r.N := by omega
    simp only [RH.push, if_neg hne]
  · rw [List.getElem?_append_right (by rw [hl]; omega), hl]
    by_cases hi2 : i < (r.N + 1) * 5
    · rw [cells_get (r.push a n) _ (by rw [hN]; exact hi2), cellF]
      have hd : i / 5 = r.N := by omega
      rw [hd]
      simp only [RH.push, if_true]
      obtain ⟨m, rfl⟩ : ∃ m, i = r.N * 5 + m := ⟨i - r.N * 5, by omega⟩
      have hm : m = 0 ∨ m = 1 ∨ m = 2 ∨ m = 3 ∨ m = 4 := by omega
      rcases hm with rfl | rfl | rfl | rfl | rfl
      · rw [if_pos (by omega)]; simp
      · rw [if_neg (by omega), if_pos (by omega)]; simp
      all_goals rw [if_neg (by omega), if_neg (by omega)]; simp
    · have h2 : (cells (r.push a n) (fun k j => if k = r.N then .slice none 0 0 else V k j))[i]? = none := by simp [cells, hN]; omega
      rw [h2]
      simp; omega

/-- THE HEAP IN MEMORY: its box at g, its row of blocks v, its blocks' three rows V. -/
structure RP (w : World) (F : Nat → Prop) (g : Nat) (r : RH) (v : Value) (V : Nat → Nat → Value) : Prop where
  blk : Blk w g 58 #[v, .int .i64 r.tk]
  fg : F g
  row : Row w F 60 5 v r.N (cells r V)
  rows : ∀ k, k < r.N → ∀ j, j < 3 → Row w F 3 1 (V k j) (r.X k j).length (nums (r.X k j))
  ns : ∀ k j k' j', k < r.N → j < 3 → k' < r.N → j' < 3 → ¬ (k' = k ∧ j' = j) → (V k' j').ownBlock = none ∨ (V k' j').ownBlock ≠ (V k j).ownBlock
def RHeapAt (w : World) (F : Nat → Prop) (g : Nat) (r : RH) : Prop := ∃ v V, RP w F g r v V
section
variable {w w' w1 : World} {F G : Nat → Prop} {g : Nat} {r : RH} {v : Value} {V : Nat → Nat → Value}
theorem RP.more (h : RP w F g r v V) (hG : ∀ b, b < w.heap.size → F b → G b) : RP w G g r v V :=
  ⟨h.blk, hG g h.blk.lt h.fg, h.row.mono hG, fun k hk j hj => (h.rows k hk j hj).mono hG, h.ns⟩
theorem RP.only (h : RP w F g r v V) (ho : Only G w w') (hd : ∀ b, b < w.heap.size → F b → ¬ G b) : RP w' F g r v V :=
  ⟨h.blk.only ho (hd g h.blk.lt h.fg), h.fg, h.row.only ho (fun b hb => hd b (h.row.lt hb) (h.row.2 b hb)),
    fun k hk j hj => (h.rows k hk j hj).only ho (fun b hb => hd b ((h.rows k hk j hj).lt hb) ((h.rows k hk j hj).2 b hb)), h.ns⟩
theorem RP.alloc (h : RP w F g r v V) (o : Obj) : RP (w.alloc o) F g r v V :=
  ⟨h.blk.alloc o, h.fg, h.row.alloc o, fun k hk j hj => (h.rows k hk j hj).alloc o, h.ns⟩
theorem RP.drewN (h : RP w F g r v V) (n : Nat) : RP (w.drewN n) F g r v V := ⟨h.blk, h.fg, h.row, h.rows, h.ns⟩
theorem RP.drew (h : RP w F g r v V) : RP w.drew F g r v V := ⟨h.blk, h.fg, h.row, h.rows, h.ns⟩
theorem RP.ad_cell {vb cap : Nat} (h : RP w F g r (.slice (some ⟨vb, 0, none⟩) r.N cap) V) {k : Nat} (hk : k < r.N) : w.cell? ⟨vb, k * 5, none⟩ = some (.int .i64 (r.ad k)) := h.row.cell (cells_ad r V hk)
theorem RP.nn_cell {vb cap : Nat} (h : RP w F g r (.slice (some ⟨vb, 0, none⟩) r.N cap) V) {k : Nat} (hk : k < r.N) : w.cell? ⟨vb, k * 5 + 1, none⟩ = some (.int .i64 (r.nn k)) := h.row.cell (cells_nn r V hk)
theorem RP.V_cell {vb cap : Nat} (h : RP w F g r (.slice (some ⟨vb, 0, none⟩) r.N cap) V) {k j : Nat} (hk : k < r.N) (hj : j < 3) : w.cell? ⟨vb, k * 5 + 2 + j, none⟩ = some (V k j) := h.row.cell (cells_V r V hk hj)
/-- An append onto one of the three rows, and the store of the new row's head. -/
theorem RP.appended {vb cap : Nat} (h : RP w F g r (.slice (some ⟨vb, 0, none⟩) r.N cap) V) {k j : Nat} (hk : k < r.N) (hj : j < 3) {x : Int} {v1 : Value}
    (hown : w1.ownsRow 0 3 1 v1 ((r.X k j).length + 1) (nums (r.X k j) ++ [.int .i64 x])) (hg : w.grownBy w1 (V k j).ownBlock) {H : Nat} (hat : v1.ownBlock = (V k j).ownBlock ∨ v1.ownBlock = some H) (hH : w.heap.size ≤ H) :
    RP (w1.setCell ⟨vb, k * 5 + 2 + j, none⟩ v1) (fun b => F b ∨ w.heap.size ≤ b) g (r.setX k j (r.X k j ++ [x])) (.slice (some ⟨vb, 0, none⟩) r.N cap) (upd2 V k j v1) := by
  have hrk := h.rows k hk j hj
  have hvb : (Value.slice (some ⟨vb, 0, none⟩) r.N cap).ownBlock = some vb := rfl
  have hFv : Row w1 (fun b => F b ∨ w.heap.size ≤ b) 3 1 v1 ((r.X k j).length + 1) (nums (r.X k j ++ [x])) := by
    refine ⟨by rw [← nums_append]; exact hown, fun b hb => ?_⟩
    rcases hat with e | e
    · exact .inl (hrk.2 b (by rw [← e]; exact hb))
    · rw [e] at hb; injection hb with hb; right; omega
  have hrow1 : Row w1 F 60 5 (.slice (some ⟨vb, 0, none⟩) r.N cap) r.N (cells r V) := h.row.grown hg (h.row.ne_type hrk (by decide))
  have hv1vb : v1.ownBlock ≠ some vb := by
    rcases hFv.ne_type hrow1 (by decide) with e | e
    · rw [e]; simp
    · rw [hvb] at e; exact e
  have hgvb : g ≠ vb := by
    intro e
    exact own_blk_ne h.row.1 h.blk (by decide) (by rw [hvb, e])
  refine ⟨?_, .inl h.fg, ?_, ?_, ?_⟩
  · exact (h.blk.grown hg (fun e => own_blk_ne hrk.1 h.blk (by decide) e.symm)).far (p := ⟨vb, k * 5 + 2 + j, none⟩) hgvb v1
  · have := (hrow1.mono (G := fun b => F b ∨ w.heap.size ≤ b) (fun b _ hb => .inl hb)).stored (k * 5 + 2 + j) v1
    rw [cells_set r V k j hk hj v1 (r.X k j ++ [x])] at this
    exact this
  · intro k' hk' j' hj'
    by_cases he : k' = k ∧ j' = j
    · obtain ⟨rfl, rfl⟩ := he
      rw [upd2_same]
      show Row _ _ 3 1 v1 (upd2 r.X k' j' (r.X k' j' ++ [x]) k' j').length (nums (upd2 r.X k' j' (r.X k' j' ++ [x]) k' j'))
      rw [upd2_same, List.length_append]
      exact hFv.far (p := ⟨vb, k' * 5 + 2 + j', none⟩) hv1vb v1
    · rw [upd2_other _ _ _ _ he]
      show Row _ _ 3 1 (V k' j') (upd2 r.X k j (r.X k j ++ [x]) k' j').length (nums (upd2 r.X k j (r.X k j ++ [x]) k' j'))
      rw [upd2_other _ _ _ _ he]
      have h0 := h.rows k' hk' j' hj'
      have h1 := h0.grown hg (h.ns k j k' j' hk hj hk' hj' he)
      have h2 : (V k' j').ownBlock ≠ some vb := by
        rcases h0.ne_type h.row (by decide) with e | e
        · rw [e]; simp
        · rw [hvb] at e; exact e
      exact (h1.mono (fun b _ hb => .inl hb)).far (p := ⟨vb, k * 5 + 2 + j, none⟩) h2 v1
  · intro ka ja kb jb hka hja hkb hjb hne
    by_cases hb : kb = k ∧ jb = j
    · obtain ⟨rfl, rfl⟩ := hb
      rw [upd2_same, upd2_other _ _ _ _ (by intro e; exact hne ⟨e.1.symm, e.2.symm⟩)]
      rcases hat with e | e
      · rw [e]; exact h.ns ka ja kb jb hka hja hkb hjb hne
      · right
        rw [e]
        intro e2
        have := (h.rows ka hka ja hja).lt e2.symm
        omega
    · rw [upd2_other _ _ _ _ hb]
      by_cases ha : ka = k ∧ ja = j
      · obtain ⟨rfl, rfl⟩ := ha
        rw [upd2_same]
        rcases hat with e | e
        · rw [e]; exact h.ns ka ja kb jb hka hja hkb hjb hne
        · rw [e]
          by_cases h0 : (V kb jb).ownBlock = none
          · exact .inl h0
          · right
            intro e2
            have := (h.rows kb hkb jb hjb).lt e2
            omega
      · rw [upd2_other _ _ _ _ ha]
        exact h.ns ka ja kb jb hka hja hkb hjb hne
/-- A store into one of the three rows. -/
theorem RP.stored {vb cap nb c : Nat} (h : RP w F g r (.slice (some ⟨vb, 0, none⟩) r.N cap) V) {k j : Nat} (hk : k < r.N) (hj : j < 3) (hV : V k j = .slice (some ⟨nb, 0, none⟩) (r.X k j).length c) (i : Nat) (x : Int) :
    RP (w.setCell ⟨nb, i, none⟩ (.int .i64 x)) F g (r.setX k j ((r.X k j).set i x)) (.slice (some ⟨vb, 0, none⟩) r.N cap) V ∧ F nb := by
  have hrk := h.rows k hk j hj
  have hnb : (V k j).ownBlock = some nb := by rw [hV]; rfl
  have hvb : (Value.slice (some ⟨vb, 0, none⟩) r.N cap).ownBlock = some vb := rfl
  have hne : nb ≠ vb := by
    rcases hrk.ne_type h.row (by decide) with e | e
    · rw [hnb] at e; cases e
    · rw [hnb, hvb] at e; exact fun e2 => e (by rw [e2])
  refine ⟨⟨?_, h.fg, ?_, ?_, h.ns⟩, hrk.2 nb hnb⟩
  · exact h.blk.far (p := ⟨nb, i, none⟩) (fun e => own_blk_ne hrk.1 h.blk (by decide) (by rw [hnb, e])) _
  · have := h.row.far (p := ⟨nb, i, none⟩) (by rw [hvb]; intro e; injection e with e; exact hne e.symm) (.int .i64 x)
    have e : cells (r.setX k j ((r.X k j).set i x)) V = cells r V := rfl
    rw [e]
    exact this
  · intro k' hk' j' hj'
    by_cases he : k' = k ∧ j' = j
    · obtain ⟨rfl, rfl⟩ := he
      show Row _ _ 3 1 (V k' j') (upd2 r.X k' j' ((r.X k' j').set i x) k' j').length (nums (upd2 r.X k' j' ((r.X k' j').set i x) k' j'))
      rw [upd2_same, List.length_set, ← nums_set]
      rw [hV] at hrk ⊢
      exact hrk.stored i _
    · show Row _ _ 3 1 (V k' j') (upd2 r.X k j ((r.X k j).set i x) k' j').length (nums (upd2 r.X k j ((r.X k j).set i x) k' j'))
      rw [upd2_other _ _ _ _ he]
      refine (h.rows k' hk' j' hj').far (p := ⟨nb, i, none⟩) ?_ _
      rcases h.ns k j k' j' hk hj hk' hj' he with e | e
      · rw [e]; simp
      · rw [hnb] at e; exact e
/-- A new block. -/
theorem RP.pushed (h : RP w F g r v V) {a n : Int} {v1 : Value}
    (hown : w1.ownsRow 0 60 5 v1 (r.N + 1) (cells r V ++ [.int .i64 a, .int .i64 n, .slice none 0 0, .slice none 0 0, .slice none 0 0])) (hg : w.grownBy w1 v.ownBlock) {H : Nat} (hat : v1.ownBlock = v.ownBlock ∨ v1.ownBlock = some H) (hH : w.heap.size ≤ H) :
    RP (w1.setCell ⟨g, 0, none⟩ v1) (fun b => F b ∨ w.heap.size ≤ b) g (r.push a n) v1 (fun k j => if k = r.N then .slice none 0 0 else V k j) := by
  have hblk1 : Blk w1 g 58 #[v, .int .i64 r.tk] := h.blk.grown hg (fun e => own_blk_ne h.row.1 h.blk (by decide) e.symm)
  have hFv : Row w1 (fun b => F b ∨ w.heap.size ≤ b) 60 5 v1 (r.N + 1) (cells (r.push a n) (fun k j => if k = r.N then .slice none 0 0 else V k j)) := by
    refine ⟨by rw [← cells_push]; exact hown, fun b hb => ?_⟩
    rcases hat with e | e
    · exact .inl (h.row.2 b (by rw [← e]; exact hb))
    · rw [e] at hb; injection hb with hb; right; omega
  refine ⟨?_, .inl h.fg, ?_, ?_, ?_⟩
  · have := hblk1.set_ 0 v1
    simpa [RH.push] using this
  · exact hFv.far (p := ⟨g, 0, none⟩) (own_blk_ne hFv.1 hblk1 (by decide)) v1
  · intro k hk j hj
    have hk' : k < r.N + 1 := hk
    by_cases he : k = r.N
    · simp only [if_pos he, RH.push]
      exact Row.nil_ _ _ _ _
    · simp only [if_neg he, RH.push]
      have h0 := h.rows k (by omega) j hj
      have h1 := h0.grown hg (h0.ne_type h.row (by decide))
      exact (h1.mono (fun b _ hb => .inl hb)).far (p := ⟨g, 0, none⟩) (own_blk_ne h1.1 hblk1 (by decide)) v1
  · intro ka ja kb jb hka hja hkb hjb hne
    have hka' : ka < r.N + 1 := hka
    have hkb' : kb < r.N + 1 := hkb
    by_cases hb : kb = r.N
    · simp [hb, Value.ownBlock]
    · simp only [if_neg hb]
      by_cases ha : ka = r.N
      · by_cases h0 : (V kb jb).ownBlock = none
        · exact .inl h0
        · right; simp only [if_pos ha]; simpa [Value.ownBlock] using h0
      · simp only [if_neg ha]
        exact h.ns ka ja kb jb (by omega) hja (by omega) hjb hne
theorem RP.tookTo (h : RP w F g r v V) (t : Int) : RP (w.setCell ⟨g, 1, none⟩ (.int .i64 t)) F g (r.took t) v V := by
  refine ⟨?_, h.fg, ?_, ?_, h.ns⟩
  · have := h.blk.set_ 1 (.int .i64 t)
    simpa [RH.took] using this
  · exact h.row.far (p := ⟨g, 1, none⟩) (own_blk_ne h.row.1 h.blk (by decide)) _
  · intro k hk j hj
    exact (h.rows k hk j hj).far (p := ⟨g, 1, none⟩) (own_blk_ne (h.rows k hk j hj).1 h.blk (by decide)) _
end
end Go.Proofs.Ytoakmifihofpeaa
