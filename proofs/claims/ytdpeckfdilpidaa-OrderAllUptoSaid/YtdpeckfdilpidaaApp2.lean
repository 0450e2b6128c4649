/- An append onto a row of the call's own: which cells stay. No program here. -/
import Derived.Test.YtdpeckfdilpidaaApp
import Derived.Laws.AppendOwn
set_option linter.unusedVariables false
set_option linter.unusedSimpArgs false
namespace Go.Proofs.Ytdpeckfdilpidaa
open Go.ChangeShapes Go.WideShapes Go.Deep Go.RowKit
section
variable {P : Program} {w : World}
theorem own_cells {w : World} {e : TypeId} {size n b : Nat} {v : Value} {xs : List Value} (h : w.ownsRow 0 e size v n xs) (hb : v.ownBlock = some b) (j : Nat) (hj : j < n * size) : w.cell? ⟨b, j, none⟩ = xs[j]? := by
  obtain ⟨A, cap, rfl, _⟩ := Row.shape (F := fun _ => True) ⟨h, fun _ _ => trivial⟩
  rcases h.2 with ⟨h0, _⟩ | ⟨g, cap', cur, h0, _, hg, _, _, _, ht⟩
  · rw [h0] at hb; simp [Value.ownBlock] at hb
  · injection h0 with hA _ _
    subst hA
    have hgb : g = b := by simpa [Value.ownBlock] using hb
    subst hgb
    exact h.cellAt j hj
theorem run_append_keeps (t ty e : TypeId) (i : TypeInfo) (z : Value) (size bytes : Nat) (ht : P.underlying t = some (.slice e)) (hi : P.info? e = some i) (hz : i.zero = some z)
    (hsize : i.size = size) (hby : i.bytes = bytes) (hzs : z.cells.size = size) (hsz : 0 < size)
    (v : Value) (n : Nat) (xs : List Value) (hown : w.ownsRow 0 e size v n xs)
    (a : Addr) (m c : Nat) (news : List Value) (hl : news.length = m * size) (hnews : ∀ j u, news[j]? = some u → w.cell? (a.add j) = some u) (h1 : ∀ u ∈ news, u.oneCell' = true)
    (hm : 0 < m) (h63 : n + m ≤ maxLen) (hbytes : (n + m) * bytes ≤ 140737488355328) :
    ∃ g cap w', (Builtin.append_ #[t, t] ty #[v, .slice (some a) m c]).run P w = .ok (.slice (some ⟨g, 0, none⟩) (n + m) cap) w' ∧
      w'.ownsRow 0 e size (.slice (some ⟨g, 0, none⟩) (n + m) cap) (n + m) (xs ++ news) ∧ w.grownBy w' v.ownBlock ∧ (v.ownBlock = some g ∨ g = w.heap.size) ∧
      (∀ b j, b < w.heap.size → (v.ownBlock = some b → j < n * size) → w'.cell? ⟨b, j, none⟩ = w.cell? ⟨b, j, none⟩) := by
  obtain ⟨g, cap, w', hr, h2, h3, h4, h5⟩ := run_append_lies (P := P) w t ty 0 e i z size bytes ht hi hz hsize hby hzs hsz v n xs hown a m c news hl hnews h1 hm h63 hbytes (Nat.zero_le _) w.heap.size rfl
  refine ⟨g, cap, w', hr, h2, h3, h4, fun b j hb hj => ?_⟩
  by_cases hvb : v.ownBlock = some b
  · have hj' := hj hvb
    have hx : w.cell? ⟨b, j, none⟩ = xs[j]? := own_cells hown hvb j hj'
    have hxl : j < xs.length := by rw [hown.1]; exact hj'
    rcases h4 with e1 | e1
    · have hgb : g = b := by rw [hvb] at e1; injection e1 with e1; exact e1.symm
      subst hgb
      have hm2 : n * size ≤ (n + m) * size := Nat.mul_le_mul_right _ (Nat.le_add_right _ _)
      rw [own_cells h2 (b := g) rfl j (by omega), hx, List.getElem?_append_left hxl]
    · rcases hown.2 with ⟨h0, _⟩ | ⟨g', cap', cur, hv, _, hg, hnc, hcm, hcs, htk⟩
      · rw [h0] at hvb; simp [Value.ownBlock] at hvb
      · subst hv
        by_cases hroom : n + m ≤ cap'
        · have hfit : n * i.size + news.length ≤ cur.size := by rw [hl, hcs, hsize, ← Nat.add_mul]; exact Nat.mul_le_mul_right _ hroom
          have hr2 := run_append_room (P := P) w t ty e i ht hi g' n cap' cur hg a m c news (by rw [hl, hsize]) hnews h1 hroom hfit
          rw [hr] at hr2
          injection hr2 with e2 _
          injection e2 with e2 _ _
          injection e2 with e2
          injection e2 with e2 _ _
          have : g' < w.heap.size := by
            rcases Nat.lt_or_ge g' w.heap.size with hlt | hge
            · exact hlt
            · rw [Array.getElem?_eq_none hge] at hg; cases hg
          omega
        · have hr2 := run_append_grow (P := P) w t ty e i z ht hi hz ⟨g', 0, none⟩ n cap' xs (by rw [hown.1, hsize]) (hown.cells (g := g') rfl) a m c news (by rw [hl, hsize]) hnews (by omega) (by simp only [maxLen] at h63; omega) (growslice_fits (by omega) (by rw [hby]; exact hbytes))
          rw [hr] at hr2
          injection hr2 with _ e2
          rw [e2]
          exact World.cell?_of_block (heap_alloc_old w.drew _ b hb)
  · exact World.cell?_of_block (h3.block b hb (fun e => hvb e.symm))
theorem wpList_append_keeps {ops : Array Oper} {rest : List Oper} {o : Oper} {a : Act} {Q : Exit → Act → World → Prop} (hgd : o.guard = none) (s x : Operand) (t : TypeId)
    (ho : o.op = .call { callee := .builtin .append, args := #[s, x], argTypes := #[t, t] })
    (e : TypeId) (i : TypeInfo) (z : Value) (size bytes : Nat) (ht : P.underlying t = some (.slice e)) (hi : P.info? e = some i) (hz : i.zero = some z)
    (hsize : i.size = size) (hby : i.bytes = bytes) (hzs : z.cells.size = size) (hsz : 0 < size)
    (v : Value) (n : Nat) (xs : List Value) (hs : a.eval s = v) (hown : w.ownsRow 0 e size v n xs)
    (ad : Addr) (m c : Nat) (news : List Value) (hx : a.eval x = .slice (some ad) m c) (hl : news.length = m * size) (hnews : ∀ j u, news[j]? = some u → w.cell? (ad.add j) = some u) (h1 : ∀ u ∈ news, u.oneCell' = true)
    (hm : 0 < m) (h63 : n + m ≤ maxLen) (hbytes : (n + m) * bytes ≤ 140737488355328) (N : Nat) (hN : n + m = N) (ys : List Value) (hys : xs ++ news = ys) (S : Nat) (hS : w.heap.size = S)
    (h : ∀ g cap w', w'.ownsRow 0 e size (.slice (some ⟨g, 0, none⟩) N cap) N ys → w.grownBy w' v.ownBlock → (v.ownBlock = some g ∨ g = S) →
      (∀ b j, b < w.heap.size → (v.ownBlock = some b → j < n * size) → w'.cell? ⟨b, j, none⟩ = w.cell? ⟨b, j, none⟩) → wpList P ops Q rest (a.put o.dst (.slice (some ⟨g, 0, none⟩) N cap)) w') : wpList P ops Q (o :: rest) a w := by
  subst hN hys hS
  refine wpList_plain hgd fun _ hK => ?_
  obtain ⟨g, cap, w', hr, h2, h3, h4, h5⟩ := run_append_keeps (P := P) t o.type e i z size bytes ht hi hz hsize hby hzs hsz v n xs hown ad m c news hl hnews h1 hm h63 hbytes
  unfold Oper.wp execOp
  simp only [ho, resolve, invoke, builtin, Sem.run_bind, Sem.run_pure, Result.andThen_ok, List.map_toArray, List.map_cons, List.map_nil, hs, hx, hr]
  exact hK _ _ (h g cap w' h2 h3 h4 h5)
end
end Go.Proofs.Ytdpeckfdilpidaa
