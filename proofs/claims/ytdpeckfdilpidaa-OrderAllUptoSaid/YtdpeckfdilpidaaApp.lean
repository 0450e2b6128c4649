/- An append at a plain region's operation, of any number of new elements, none included. No program here. -/
import Derived.Test.YtdpeckfdilpidaaRead
import Derived.Deep.AppendLies
set_option linter.unusedVariables false
set_option linter.unusedSimpArgs false
namespace Go.Proofs.Ytdpeckfdilpidaa
open Go.ChangeShapes Go.WideShapes Go.Deep Go.RowKit
section
variable {P : Program} {w : World}
theorem run_append_any (t ty e : TypeId) (i : TypeInfo) (z : Value) (size bytes : Nat) (ht : P.underlying t = some (.slice e)) (hi : P.info? e = some i) (hz : i.zero = some z)
    (hsize : i.size = size) (hby : i.bytes = bytes) (hzs : z.cells.size = size) (hsz : 0 < size)
    (v : Value) (n : Nat) (xs : List Value) (hown : w.ownsRow 0 e size v n xs)
    (ad : Option Addr) (m c : Nat) (news : List Value) (hl : news.length = m * size) (hnil : ad = none → m = 0) (hnews : ∀ a, ad = some a → ∀ j u, news[j]? = some u → w.cell? (a.add j) = some u) (h1 : ∀ u ∈ news, u.oneCell' = true)
    (h63 : n + m ≤ maxLen) (hbytes : (n + m) * bytes ≤ 140737488355328) :
    ∃ A cap w', (Builtin.append_ #[t, t] ty #[v, .slice ad m c]).run P w = .ok (.slice A (n + m) cap) w' ∧
      w'.ownsRow 0 e size (.slice A (n + m) cap) (n + m) (xs ++ news) ∧ w.grownBy w' v.ownBlock ∧ ((Value.slice A (n + m) cap).ownBlock = v.ownBlock ∨ (Value.slice A (n + m) cap).ownBlock = some w.heap.size) := by
  have sh : ∀ {w1 : World} {v1 : Value} {n1 : Nat} {xs1 : List Value}, w1.ownsRow 0 e size v1 n1 xs1 → ∃ A cap, v1 = .slice A n1 cap ∧ n1 ≤ cap := fun h => Row.shape (F := fun _ => True) ⟨h, fun _ _ => trivial⟩
  cases ad with
  | some a =>
    obtain ⟨v', w', hr, h2, h3, _, h5⟩ := run_append_own_at (P := P) w 0 t ty e i z size bytes ht hi hz hsize hby hzs hsz v n xs hown a m c news hl (hnews a rfl) h1 h63 hbytes (Nat.zero_le _)
    obtain ⟨A, cap, rfl, _⟩ := sh h2
    exact ⟨A, cap, w', hr, h2, h3, h5⟩
  | none =>
    obtain rfl := hnil rfl
    obtain ⟨A, cap, rfl, hle⟩ := sh hown
    have hn : news = [] := List.length_eq_zero_iff.1 (by rw [hl]; simp)
    subst hn
    refine ⟨A, cap, w, ?_, by simpa using hown, World.grownBy.refl _ _, .inl (by simp [Value.ownBlock])⟩
    cases A <;> simp [Builtin.append_, run_underlying ht, sizeOf, typeInfo, hi, hle, Builtin.lenOf, Builtin.firstCells, storeCells]
theorem wpList_append_any {ops : Array Oper} {rest : List Oper} {o : Oper} {a : Act} {Q : Exit → Act → World → Prop} (hgd : o.guard = none) (s x : Operand) (t : TypeId)
    (ho : o.op = .call { callee := .builtin .append, args := #[s, x], argTypes := #[t, t] })
    (e : TypeId) (i : TypeInfo) (z : Value) (size bytes : Nat) (ht : P.underlying t = some (.slice e)) (hi : P.info? e = some i) (hz : i.zero = some z)
    (hsize : i.size = size) (hby : i.bytes = bytes) (hzs : z.cells.size = size) (hsz : 0 < size)
    (v : Value) (n : Nat) (xs : List Value) (hs : a.eval s = v) (hown : w.ownsRow 0 e size v n xs)
    (ad : Option Addr) (m c : Nat) (news : List Value) (hx : a.eval x = .slice ad m c) (hl : news.length = m * size) (hnil : ad = none → m = 0) (hnews : ∀ a, ad = some a → ∀ j u, news[j]? = some u → w.cell? (a.add j) = some u) (h1 : ∀ u ∈ news, u.oneCell' = true)
    (h63 : n + m ≤ maxLen) (hbytes : (n + m) * bytes ≤ 140737488355328) (N : Nat) (hN : n + m = N) (ys : List Value) (hys : xs ++ news = ys) (S : Nat) (hS : w.heap.size = S)
    (h : ∀ A cap w', w'.ownsRow 0 e size (.slice A N cap) N ys → w.grownBy w' v.ownBlock → ((Value.slice A N cap).ownBlock = v.ownBlock ∨ (Value.slice A N cap).ownBlock = some S) → wpList P ops Q rest (a.put o.dst (.slice A N cap)) w') : wpList P ops Q (o :: rest) a w := by
  subst hN hys hS
  refine wpList_plain hgd fun _ hK => ?_
  obtain ⟨A, cap, w', hr, h2, h3, h4⟩ := run_append_any (P := P) t o.type e i z size bytes ht hi hz hsize hby hzs hsz v n xs hown ad m c news hl hnil hnews h1 h63 hbytes
  unfold Oper.wp execOp
  simp only [ho, resolve, invoke, builtin, Sem.run_bind, Sem.run_pure, Result.andThen_ok, List.map_toArray, List.map_cons, List.map_nil, hs, hx, hr]
  exact hK _ _ (h A cap w' h2 h3 h4)
end
/-- What a list that can be read brings to an append. -/
theorem RL.news {w : World} {G : Nat → Prop} {A : Option Addr} {l : List Int} (h : RL w G A l) : (A = none → l.length = 0) ∧ ∀ a, A = some a → ∀ j u, (nums l)[j]? = some u → w.cell? (a.add j) = some u := by
  constructor
  · rintro rfl
    rcases Nat.eq_zero_or_pos l.length with h0 | h0
    · exact h0
    · obtain ⟨_, b, off, e, _⟩ := h.2 0 h0; cases e
  · rintro a rfl j u hj
    have hlt : j < l.length := by
      rcases Nat.lt_or_ge j l.length with h1 | h1
      · exact h1
      · rw [List.getElem?_eq_none (by simpa [nums] using h1)] at hj; cases hj
    obtain ⟨_, b, off, e, _, _, hc⟩ := h.2 j hlt
    injection e with e
    subst e
    rw [Go.WideShapes.add_plain, hc, ← hj, nums_get l j hlt]
theorem nums_one (l : List Int) : ∀ u ∈ nums l, u.oneCell' = true := by
  intro u hu
  obtain ⟨x, _, rfl⟩ := List.mem_map.1 hu
  rfl
end Go.Proofs.Ytdpeckfdilpidaa
