/- Families of rows of the call's own: marked, then grown, one by one. No walk here. -/
import Derived.Test.YtafhjpehkfcmjaaAp
set_option linter.unusedVariables false
set_option linter.unusedSimpArgs false
namespace Go.Proofs.Ytafhjpehkfcmjaa
open Go.ChangeShapes Go.WideShapes Go.RowKit
/-- The block b holds cells of the type e. -/
def TB (w : World) (b : Nat) (e : TypeId) : Prop := ∃ cs, w.heap[b]? = some (.cells cs e (0, 0))
theorem TB.one {w : World} {b : Nat} {e e' : TypeId} (h : TB w b e) (h' : TB w b e') : e = e' := by
  obtain ⟨cs, h⟩ := h
  obtain ⟨cs', h'⟩ := h'
  rw [h] at h'
  injection h' with h'
  injection h'
theorem TB.lt {w : World} {b : Nat} {e : TypeId} (h : TB w b e) : b < w.heap.size := by
  obtain ⟨cs, h⟩ := h
  exact heap_lt h
theorem TB.only {w w' : World} {F : Nat → Prop} {b : Nat} {e : TypeId} (h : TB w b e) (o : Only F w w') (hb : ¬ F b) : TB w' b e := by
  obtain ⟨cs, h1⟩ := h
  exact ⟨cs, (o.block b (heap_lt h1) hb).trans h1⟩
theorem Blk.tb {w : World} {g : Nat} {t : TypeId} {cs : Array Value} (h : Blk w g t cs) : TB w g t := ⟨cs, h⟩
section
variable {w w' : World} {H : Nat} {e : TypeId} {size n : Nat} {v : Value} {xs : List Value}
theorem own_tb (h : w.ownsRow H e size v n xs) {b : Nat} (hb : v.ownBlock = some b) : TB w b e := by
  rcases h.2 with ⟨rfl, _⟩ | ⟨g, cap, cur, rfl, _, hg, _⟩
  · simp [Value.ownBlock] at hb
  · have : g = b := by simpa [Value.ownBlock] using hb
    subst this
    exact ⟨cur, hg⟩
theorem own_cells (h : w.ownsRow H e size v n xs) {b : Nat} (hb : v.ownBlock = some b) (j : Nat) (hj : j < n * size) : w.cell? ⟨b, j, none⟩ = xs[j]? := by
  rcases h.2 with ⟨rfl, _⟩ | ⟨g, cap, cur, rfl, _, hg, _⟩
  · simp [Value.ownBlock] at hb
  · have : g = b := by simpa [Value.ownBlock] using hb
    subst this
    exact World.ownsRow.cellAt h j hj
theorem own_keep (h : w.ownsRow H e size v n xs) (o : Only (fun b => ¬ TB w b e) w w') : w'.ownsRow H e size v n xs := own_only h o fun b hb hn => hn (own_tb h hb)
end
theorem tb_other {w w' : World} {b0 : Nat} {e e' : TypeId} (h : TB w b0 e') (hne : e' ≠ e) (o : Only (fun b => b = b0) w w') : Only (fun b => ¬ TB w b e) w w' :=
  o.mono fun b _ hb hb2 => by subst hb; exact hne (h.one hb2)
/-! ### an append of one element: only its block turns -/
theorem run_append_block {P : Program} {w : World} (t ty : TypeId) (H : Nat) (e : TypeId) (i : TypeInfo) (z : Value) (size bytes : Nat) (ht : P.underlying t = some (.slice e)) (hi : P.info? e = some i) (hz : i.zero = some z)
    (hsize : i.size = size) (hby : i.bytes = bytes) (hzs : z.cells.size = size) (hsz : 0 < size)
    (v : Value) (n : Nat) (xs : List Value) (hown : w.ownsRow H e size v n xs)
    (a : Addr) (m c : Nat) (news : List Value) (hl : news.length = m * size) (hnews : ∀ j u, news[j]? = some u → w.cell? (a.add j) = some u) (h1 : ∀ u ∈ news, u.oneCell' = true)
    (hm : 0 < m) (h63 : n + m ≤ maxLen) (hbytes : (n + m) * bytes ≤ 140737488355328) (hH : H ≤ w.heap.size) :
    ∃ g cap w', (Builtin.append_ #[t, t] ty #[v, .slice (some a) m c]).run P w = .ok (.slice (some ⟨g, 0, none⟩) (n + m) cap) w' ∧
      w'.ownsRow H e size (.slice (some ⟨g, 0, none⟩) (n + m) cap) (n + m) (xs ++ news) ∧ Only (fun b => b = g) w w' ∧ (v.ownBlock = some g ∨ w.heap.size ≤ g) := by
  obtain ⟨g, cap, w', hr, h2, h3, h4, h5⟩ := run_append_lies (P := P) w t ty H e i z size bytes ht hi hz hsize hby hzs hsz v n xs hown a m c news hl hnews h1 hm h63 hbytes hH w.heap.size rfl
  refine ⟨g, cap, w', hr, h2, ⟨h3.os, h3.tape, h3.output, h3.size, fun b hb hne => ?_⟩, h4.imp id fun e => by omega⟩
  by_cases hvb : v.ownBlock = some b
  · rcases hown.2 with ⟨h0, _⟩ | ⟨g', cap', cur, hv, _, hg, hnc, hcm, hcs, htk⟩
    · rw [h0] at hvb; simp [Value.ownBlock] at hvb
    · subst hv
      by_cases hroom : n + m ≤ cap'
      · have hfit : n * i.size + news.length ≤ cur.size := by rw [hl, hcs, hsize, ← Nat.add_mul]; exact Nat.mul_le_mul_right _ hroom
        have hr2 := run_append_room (P := P) w t ty e i ht hi g' n cap' cur hg a m c news (by rw [hl, hsize]) hnews h1 hroom hfit
        rw [hr] at hr2
        injection hr2 with e2 _
        injection e2 with e2 _ _
        injection e2 with e2
        injection e2 with e2 _ _
        have : g' = b := by simpa [Value.ownBlock] using hvb
        omega
      · have hr2 := run_append_grow (P := P) w t ty e i z ht hi hz ⟨g', 0, none⟩ n cap' xs (by rw [hown.1, hsize]) (hown.cells (g := g') rfl) a m c news (by rw [hl, hsize]) hnews (by omega) (by simp only [maxLen] at h63; omega) (growslice_fits (by omega) (by rw [hby]; exact hbytes))
        rw [hr] at hr2
        injection hr2 with _ e2
        rw [e2]
        exact heap_alloc_old w.drew _ hb
  · exact h3.block b hb (fun e => hvb e.symm)
theorem wpList_one {P : Program} {w : World} {ops : Array Oper} {rest : List Oper} {o : Oper} {a : Act} {Q : Exit → Act → World → Prop} (hgd : o.guard = none) (s x : Operand) (t : TypeId)
    (ho : o.op = .call { callee := .builtin .append, args := #[s, x], argTypes := #[t, t] }) (H : Nat)
    (e : TypeId) (i : TypeInfo) (z : Value) (size bytes : Nat) (ht : P.underlying t = some (.slice e)) (hi : P.info? e = some i) (hz : i.zero = some z)
    (hsize : i.size = size) (hby : i.bytes = bytes) (hzs : z.cells.size = size) (hsz : 0 < size)
    (v : Value) (n : Nat) (xs : List Value) (hs : a.eval s = v) (hown : w.ownsRow H e size v n xs) (cs : Array Value)
    (hx : a.eval x = .slice (some ⟨w.heap.size, 0, none⟩) 1 1) (hl : cs.size = size) (h1 : ∀ u ∈ cs.toList, u.oneCell' = true)
    (hn : n ≤ 10000000) (hb : bytes ≤ 1000) (hH : H ≤ w.heap.size)
    (h : ∀ g cap w', w'.ownsRow H e size (.slice (some ⟨g, 0, none⟩) (n + 1) cap) (n + 1) (xs ++ cs.toList) → Only (fun b => b = g) w w' → (v.ownBlock = some g ∨ w.heap.size ≤ g) → wpList P ops Q rest (a.put o.dst (.slice (some ⟨g, 0, none⟩) (n + 1) cap)) w') :
    wpList P ops Q (o :: rest) a (w.alloc (.cells cs e)) := by
  refine wpList_plain hgd fun _ hK => ?_
  have hnb : (n + 1) * bytes ≤ 140737488355328 := Nat.le_trans (Nat.mul_le_mul (show n + 1 ≤ 10000001 by omega) hb) (by omega)
  obtain ⟨g, cap, w', hr, h2, h3, h4⟩ := run_append_block (P := P) (w := w.alloc (.cells cs e)) t o.type H e i z size bytes ht hi hz hsize hby hzs hsz v n xs (own_only hown (F := fun _ => False) ((Only.refl _ w).alloc _) (fun _ _ h => h)) ⟨w.heap.size, 0, none⟩ 1 1 cs.toList (by simpa using hl) (fun j u hj => World.news_of_block (cs := cs) (t := e) (fr := (0, 0)) (heap_alloc_new _ _) j u (by simpa using hj)) h1 (by omega) (by unfold maxLen; omega) hnb (Nat.le_trans hH (by simp))
  unfold Oper.wp execOp
  simp only [ho, resolve, invoke, builtin, Sem.run_bind, Sem.run_pure, Result.andThen_ok, List.map_toArray, List.map_cons, List.map_nil, hs, hx, hr]
  exact hK _ _ (h g cap w' h2 (((Only.refl (fun b => b = g) w).alloc _).then_ h3) (h4.imp id fun e => Nat.le_trans (by simp) e))
end Go.Proofs.Ytafhjpehkfcmjaa
