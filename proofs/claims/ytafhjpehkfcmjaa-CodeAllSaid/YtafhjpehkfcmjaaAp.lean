/- Appends of any number of elements, none included, onto rows of the call's own: bytes, instructions, functions' heads. -/
import Derived.Test.YtafhjpehkfcmjaaW41
import Derived.Deep.AppendLies
set_option linter.unusedVariables false
set_option linter.unusedSimpArgs false
namespace Go.Proofs.Ytafhjpehkfcmjaa
open Go.ChangeShapes Go.WideShapes Go.RowKit
section
variable {P : Program} {w : World}
theorem run_append_any (t ty : TypeId) (H : Nat) (e : TypeId) (i : TypeInfo) (z : Value) (size bytes : Nat) (ht : P.underlying t = some (.slice e)) (hi : P.info? e = some i) (hz : i.zero = some z)
    (hsize : i.size = size) (hby : i.bytes = bytes) (hzs : z.cells.size = size) (hsz : 0 < size)
    (v : Value) (n : Nat) (xs : List Value) (hown : w.ownsRow H e size v n xs)
    (ad : Option Addr) (m c : Nat) (news : List Value) (hl : news.length = m * size) (hnil : ad = none → m = 0) (hnews : ∀ a, ad = some a → ∀ j u, news[j]? = some u → w.cell? (a.add j) = some u) (h1 : ∀ u ∈ news, u.oneCell' = true)
    (h63 : n + m ≤ maxLen) (hbytes : (n + m) * bytes ≤ 140737488355328) (hH : H ≤ w.heap.size) :
    ∃ A cap w', (Builtin.append_ #[t, t] ty #[v, .slice ad m c]).run P w = .ok (.slice A (n + m) cap) w' ∧
      w'.ownsRow H e size (.slice A (n + m) cap) (n + m) (xs ++ news) ∧ w.grownBy w' v.ownBlock ∧ ((Value.slice A (n + m) cap).ownBlock = v.ownBlock ∨ (Value.slice A (n + m) cap).ownBlock = some w.heap.size) := by
  cases ad with
  | some a =>
    obtain ⟨v', w', hr, h2, h3, _, h5⟩ := run_append_own_at (P := P) w H t ty e i z size bytes ht hi hz hsize hby hzs hsz v n xs hown a m c news hl (hnews a rfl) h1 h63 hbytes hH
    obtain ⟨A, cap, rfl, _⟩ := own_shape h2
    exact ⟨A, cap, w', hr, h2, h3, h5⟩
  | none =>
    obtain rfl := hnil rfl
    obtain ⟨A, cap, rfl, hle, _⟩ := own_shape hown
    have hn : news = [] := List.length_eq_zero_iff.1 (by rw [hl]; simp)
    subst hn
    refine ⟨A, cap, w, ?_, by simpa using hown, World.grownBy.refl _ _, .inl (by simp [Value.ownBlock])⟩
    cases A <;> simp [Builtin.append_, run_underlying ht, sizeOf, typeInfo, hi, hle, Builtin.lenOf, Builtin.firstCells, storeCells]
/-- The append at a plain operation. -/
theorem wpList_grow {ops : Array Oper} {rest : List Oper} {o : Oper} {a : Act} {Q : Exit → Act → World → Prop} (hgd : o.guard = none) (s x : Operand) (t : TypeId)
    (ho : o.op = .call { callee := .builtin .append, args := #[s, x], argTypes := #[t, t] }) (H : Nat)
    (e : TypeId) (i : TypeInfo) (z : Value) (size bytes : Nat) (ht : P.underlying t = some (.slice e)) (hi : P.info? e = some i) (hz : i.zero = some z)
    (hsize : i.size = size) (hby : i.bytes = bytes) (hzs : z.cells.size = size) (hsz : 0 < size)
    (v : Value) (n : Nat) (xs : List Value) (hs : a.eval s = v) (hown : w.ownsRow H e size v n xs)
    (ad : Option Addr) (m c : Nat) (news : List Value) (hx : a.eval x = .slice ad m c) (hl : news.length = m * size) (hnil : ad = none → m = 0) (hnews : ∀ a, ad = some a → ∀ j u, news[j]? = some u → w.cell? (a.add j) = some u) (h1 : ∀ u ∈ news, u.oneCell' = true)
    (h63 : n + m ≤ maxLen) (hbytes : (n + m) * bytes ≤ 140737488355328) (hH : H ≤ w.heap.size)
    (h : ∀ A cap w', w'.ownsRow H e size (.slice A (n + m) cap) (n + m) (xs ++ news) → Only (fun b => v.ownBlock = some b) w w' → ((Value.slice A (n + m) cap).ownBlock = v.ownBlock ∨ ∃ g, (Value.slice A (n + m) cap).ownBlock = some g ∧ w.heap.size ≤ g) → wpList P ops Q rest (a.put o.dst (.slice A (n + m) cap)) w') : wpList P ops Q (o :: rest) a w := by
  refine wpList_plain hgd fun _ hK => ?_
  obtain ⟨A, cap, w', hr, h2, h3, h4⟩ := run_append_any (P := P) t o.type H e i z size bytes ht hi hz hsize hby hzs hsz v n xs hown ad m c news hl hnil hnews h1 h63 hbytes hH
  unfold Oper.wp execOp
  simp only [ho, resolve, invoke, builtin, Sem.run_bind, Sem.run_pure, Result.andThen_ok, List.map_toArray, List.map_cons, List.map_nil, hs, hx, hr]
  exact hK _ _ (h A cap w' h2 ((Only.refl _ w).grown h3 fun j hj => .inl hj) (h4.imp id fun h => ⟨_, h, Nat.le_refl _⟩))
end
theorem Only.nil {w w' : World} {n c : Nat} (h : Only (fun b => (Value.slice none n c).ownBlock = some b) w w') : Below w.heap.size w w' := h.toBelow (Nat.le_refl _) fun k _ e => by simp [Value.ownBlock] at e
theorem own_nil (w : World) (H : Nat) (e : TypeId) (size : Nat) : w.ownsRow H e size (.slice none 0 0) 0 [] := ⟨by simp, .inl ⟨rfl, rfl⟩⟩
/-! ### bytes -/
theorem byts_slc (S : Nat → UInt8) (m j : Nat) (u : Value) (h : (byts (slc S 0 m))[j]? = some u) : j < m ∧ u = .int .u8 ((S j).toNat : Int) := by
  have hj : j < m := by
    rcases Nat.lt_or_ge j m with h1 | h1
    · exact h1
    · rw [List.getElem?_eq_none (by simpa [byts, slc] using h1)] at h; cases h
  refine ⟨hj, ?_⟩
  simp [byts, slc, hj] at h
  exact h.symm
theorem BL.news {w : World} {G : Nat → Prop} {A : Option Addr} {m : Nat} {S : Nat → UInt8} (h : BL w G A m S) : (A = none → m = 0) ∧ ∀ a, A = some a → ∀ j u, (byts (slc S 0 m))[j]? = some u → w.cell? (a.add j) = some u := by
  constructor
  · rintro rfl
    rcases Nat.eq_zero_or_pos m with h0 | h0
    · exact h0
    · obtain ⟨b, off, e, _⟩ := h 0 h0; cases e
  · rintro a rfl j u hj
    obtain ⟨hlt, rfl⟩ := byts_slc S m j u hj
    obtain ⟨b, off, e, _, _, hc⟩ := h j hlt
    injection e with e
    subst e
    rw [Go.WideShapes.add_plain, hc]
theorem byts_one (l : List UInt8) : ∀ u ∈ byts l, u.oneCell' = true := by
  intro u hu
  obtain ⟨x, _, rfl⟩ := List.mem_map.1 hu
  rfl
theorem wpList_bytes {w : World} {ops : Array Oper} {rest : List Oper} {o : Oper} {a : Act} {Q : Exit → Act → World → Prop} (hgd : o.guard = none) (s x : Operand)
    (ho : o.op = .call { callee := .builtin .append, args := #[s, x], argTypes := #[28, 28] }) {H : Nat} {v : Value} {l : List UInt8} (hs : a.eval s = v) (hown : BR w H v l) (hH : H ≤ w.heap.size)
    {G : Nat → Prop} {ad : Option Addr} {m c : Nat} {S : Nat → UInt8} (hx : a.eval x = .slice ad m c) (hB : BL w G ad m S) (N : Nat) (hN : l.length + m = N) (hN2 : N ≤ 1000000000)
    (h : ∀ A cap w', BR w' H (.slice A N cap) (l ++ slc S 0 m) → Only (fun b => v.ownBlock = some b) w w' → ((Value.slice A N cap).ownBlock = v.ownBlock ∨ ∃ g, (Value.slice A N cap).ownBlock = some g ∧ w.heap.size ≤ g) → wpList Try.prog ops Q rest (a.put o.dst (.slice A N cap)) w') :
    wpList Try.prog ops Q (o :: rest) a w := by
  subst hN
  obtain ⟨i0, hi0, hz0, hz1, hz2⟩ := u8_info
  refine wpList_grow hgd s x 28 ho H 5 i0 _ 1 1 Try.underlying28 hi0 hz0 hz1 hz2 rfl (by omega) v l.length (byts l) hs hown ad m c (byts (slc S 0 m)) hx (by simp [byts, slc]) hB.news.1 hB.news.2 (byts_one _) (by unfold maxLen; omega) (by omega) hH ?_
  intro A cap w' hr
  refine h A cap w' ?_
  unfold BR
  rw [List.length_append, slc_length, byts_append]
  exact hr
/-! ### instructions, functions' heads -/
theorem insCells_one (xs : List Ins) : ∀ u ∈ insCells xs, u.oneCell' = true := by
  intro u hu
  obtain ⟨x, _, hx⟩ := List.mem_flatMap.1 hu
  simp at hx
  rcases hx with rfl | rfl | rfl | rfl | rfl <;> rfl
theorem fnCells_one (xs : List Fn) : ∀ u ∈ fnCells xs, u.oneCell' = true := by
  intro u hu
  obtain ⟨x, _, hx⟩ := List.mem_flatMap.1 hu
  simp at hx
  rcases hx with rfl | rfl | rfl | rfl | rfl <;> rfl
theorem five (j : Nat) : ∃ i k, k < 5 ∧ j = i * 5 + k := ⟨j / 5, j % 5, by omega, by omega⟩
theorem IL.news {w : World} {G : Nat → Prop} {A : Option Addr} {m : Nat} {X : Nat → Ins} (h : IL w G A m X) : (A = none → m = 0) ∧ ∀ a, A = some a → ∀ j u, (insCells (tabX X m))[j]? = some u → w.cell? (a.add j) = some u := by
  constructor
  · rintro rfl
    rcases Nat.eq_zero_or_pos m with h0 | h0
    · exact h0
    · obtain ⟨_, b, off, e, _⟩ := h.2 0 h0; cases e
  · rintro a rfl j u hj
    have hlt : j < m * 5 := by
      rcases Nat.lt_or_ge j (m * 5) with h1 | h1
      · exact h1
      · rw [List.getElem?_eq_none (by rw [insCells_length, tabX_length]; exact h1)] at hj; cases hj
    obtain ⟨i, k, hk, rfl⟩ := five j
    have hi : i < m := by omega
    obtain ⟨k0, k1, k2, k3, k4⟩ := insCells_get (tabX X m) i (by rw [tabX_length]; exact hi)
    rw [insF_tab X hi] at k0 k1 k2 k3 k4
    obtain ⟨_, b, off, e, _, _, c0, c1, c2, c3, c4⟩ := h.2 i hi
    injection e with e
    subst e
    rw [Go.WideShapes.add_plain, ← Nat.add_assoc]
    have hk5 : k = 0 ∨ k = 1 ∨ k = 2 ∨ k = 3 ∨ k = 4 := by omega
    rcases hk5 with rfl | rfl | rfl | rfl | rfl
    · rw [Nat.add_zero] at hj ⊢; rw [c0, ← k0, hj]
    · rw [c1, ← k1, hj]
    · rw [c2, ← k2, hj]
    · rw [c3, ← k3, hj]
    · rw [c4, ← k4, hj]
theorem FL.news {w : World} {G : Nat → Prop} {A : Option Addr} {m : Nat} {X : Nat → Fn} (h : FL w G A m X) : (A = none → m = 0) ∧ ∀ a, A = some a → ∀ j u, (fnCells (tabF X m))[j]? = some u → w.cell? (a.add j) = some u := by
  constructor
  · rintro rfl
    rcases Nat.eq_zero_or_pos m with h0 | h0
    · exact h0
    · obtain ⟨_, _, b, off, e, _⟩ := h.2 0 h0; cases e
  · rintro a rfl j u hj
    have hlt : j < m * 5 := by
      rcases Nat.lt_or_ge j (m * 5) with h1 | h1
      · exact h1
      · rw [List.getElem?_eq_none (by rw [fnCells_length, tabF_length]; exact h1)] at hj; cases hj
    obtain ⟨i, k, hk, rfl⟩ := five j
    have hi : i < m := by omega
    obtain ⟨k0, k1, k2, k3, k4⟩ := fnCells_get (tabF X m) i (by rw [tabF_length]; exact hi)
    rw [fnF_tab X hi] at k0 k1 k2 k3 k4
    obtain ⟨_, _, b, off, e, _, _, c0, c1, c2, c3, c4⟩ := h.2 i hi
    injection e with e
    subst e
    rw [Go.WideShapes.add_plain, ← Nat.add_assoc]
    have hk5 : k = 0 ∨ k = 1 ∨ k = 2 ∨ k = 3 ∨ k = 4 := by omega
    rcases hk5 with rfl | rfl | rfl | rfl | rfl
    · rw [Nat.add_zero] at hj ⊢; rw [c0, ← k0, hj]
    · rw [c1, ← k1, hj]
    · rw [c2, ← k2, hj]
    · rw [c3, ← k3, hj]
    · rw [c4, ← k4, hj]
theorem wpList_inss {w : World} {ops : Array Oper} {rest : List Oper} {o : Oper} {a : Act} {Q : Exit → Act → World → Prop} (hgd : o.guard = none) (s x : Operand)
    (ho : o.op = .call { callee := .builtin .append, args := #[s, x], argTypes := #[22, 22] }) {H : Nat} {v : Value} {l : List Ins} (hs : a.eval s = v) (hown : IR w H v l) (hH : H ≤ w.heap.size)
    {G : Nat → Prop} {ad : Option Addr} {m c : Nat} {S : Nat → Ins} (hx : a.eval x = .slice ad m c) (hB : IL w G ad m S) (N : Nat) (hN : l.length + m = N) (hN2 : N ≤ 1000000000)
    (h : ∀ A cap w', IR w' H (.slice A N cap) (l ++ tabX S m) → Only (fun b => v.ownBlock = some b) w w' → ((Value.slice A N cap).ownBlock = v.ownBlock ∨ ∃ g, (Value.slice A N cap).ownBlock = some g ∧ w.heap.size ≤ g) → wpList Try.prog ops Q rest (a.put o.dst (.slice A N cap)) w') :
    wpList Try.prog ops Q (o :: rest) a w := by
  subst hN
  obtain ⟨i0, hi0, hz0, hz1, hz2⟩ := ins_info
  refine wpList_grow hgd s x 22 ho H 41 i0 _ 5 40 Try.underlying22 hi0 hz0 hz1 hz2 (by decide) (by omega) v l.length (insCells l) hs hown ad m c (insCells (tabX S m)) hx (by rw [insCells_length, tabX_length]) hB.news.1 hB.news.2 (insCells_one _) (by unfold maxLen; omega) (by omega) hH ?_
  intro A cap w' hr
  refine h A cap w' ?_
  unfold IR
  rw [List.length_append, tabX_length, insCells_append]
  exact hr
theorem wpList_fns {w : World} {ops : Array Oper} {rest : List Oper} {o : Oper} {a : Act} {Q : Exit → Act → World → Prop} (hgd : o.guard = none) (s x : Operand)
    (ho : o.op = .call { callee := .builtin .append, args := #[s, x], argTypes := #[23, 23] }) {H : Nat} {v : Value} {l : List Fn} (hs : a.eval s = v) (hown : FR w H v l) (hH : H ≤ w.heap.size)
    {G : Nat → Prop} {ad : Option Addr} {m c : Nat} {S : Nat → Fn} (hx : a.eval x = .slice ad m c) (hB : FL w G ad m S) (N : Nat) (hN : l.length + m = N) (hN2 : N ≤ 1000000000)
    (h : ∀ A cap w', FR w' H (.slice A N cap) (l ++ tabF S m) → Only (fun b => v.ownBlock = some b) w w' → ((Value.slice A N cap).ownBlock = v.ownBlock ∨ ∃ g, (Value.slice A N cap).ownBlock = some g ∧ w.heap.size ≤ g) → wpList Try.prog ops Q rest (a.put o.dst (.slice A N cap)) w') :
    wpList Try.prog ops Q (o :: rest) a w := by
  subst hN
  obtain ⟨i0, hi0, hz0, hz1, hz2⟩ := fn_info
  refine wpList_grow hgd s x 23 ho H 53 i0 _ 5 48 Try.underlying23 hi0 hz0 hz1 hz2 (by decide) (by omega) v l.length (fnCells l) hs hown ad m c (fnCells (tabF S m)) hx (by rw [fnCells_length, tabF_length]) hB.news.1 hB.news.2 (fnCells_one _) (by unfold maxLen; omega) (by omega) hH ?_
  intro A cap w' hr
  refine h A cap w' ?_
  unfold FR
  rw [List.length_append, tabF_length, fnCells_append]
  exact hr
end Go.Proofs.Ytafhjpehkfcmjaa
