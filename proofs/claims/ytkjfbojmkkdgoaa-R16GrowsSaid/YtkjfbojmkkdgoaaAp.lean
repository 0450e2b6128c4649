/- An append of any number of elements, told by rows. -/
import Derived.Test.YtkjfbojmkkdgoaaX17
import Derived.Test.YtkjfbojmkkdgoaaX20
set_option linter.unusedVariables false
set_option linter.unusedSimpArgs false
namespace Go.Proofs.Ytkjfbojmkkdgoaa
open Go.RowKit
def AppInfo (t e : TypeId) (size bytes : Nat) : Prop := ∃ (i : TypeInfo) (z : Value), Try.prog.underlying t = some (.slice e) ∧ Try.prog.info? e = some i ∧ i.zero = some z ∧ i.size = size ∧ i.bytes = bytes ∧ z.cells.size = size ∧ 0 < size
theorem app_info {t e : TypeId} {size bytes : Nat} {z : Value} (ht : Try.prog.underlying t = some (.slice e)) (h : (Try.prog.info? e).map (fun i => (i.zero, i.size, i.bytes)) = some (some z, size, bytes)) (hz : z.cells.size = size) (hs : 0 < size) : AppInfo t e size bytes := by
  obtain ⟨i0, hi, hz0, hz1, hz2⟩ := info_of h
  exact ⟨i0, z, ht, hi, hz0, hz1, hz2, hz, hs⟩
theorem ev2_info : (Try.prog.info? 50).map (fun i => (i.zero, i.size, i.bytes)) = some (some (.agg #[.int .i64 0, .int .i64 0]), 2, 16) := by kernel_rfl
theorem app22 : AppInfo 22 54 5 40 := app_info Try.underlying22 ins_info rfl (by decide)
theorem app23 : AppInfo 23 61 5 48 := app_info Try.underlying23 fn_info rfl (by decide)
theorem app36 : AppInfo 36 3 1 8 := app_info Try.underlying36 int_info rfl (by decide)
theorem app42 : AppInfo 42 50 2 16 := app_info Try.underlying42 ev2_info rfl (by decide)
theorem wpList_app {w : World} {ops : Array Oper} {rest : List Oper} {o : Oper} {a : Act} {Q : Exit → Act → World → Prop} (hgd : o.guard = none) (s x : Operand) (t : TypeId)
    (ho : o.op = .call { callee := .builtin .append, args := #[s, x], argTypes := #[t, t] })
    {e : TypeId} {size bytes : Nat} (hI : AppInfo t e size bytes) (F : Nat → Prop) (v : Value) (n : Nat) (xs : List Value) (hs : a.eval s = v) (hr : Row w F e size v n xs)
    (ad : Option Addr) (m c : Nat) (news : List Value) (hx : a.eval x = .slice ad m c) (hl : news.length = m * size) (hnil : ad = none → m = 0) (hnews : ∀ a, ad = some a → ∀ j u, news[j]? = some u → w.cell? (a.add j) = some u) (h1 : ∀ u ∈ news, u.oneCell' = true)
    (h63 : n + m ≤ 1000000000000) (hby : bytes ≤ 100) (N : Nat) (hN : n + m = N) (ys : List Value) (hys : xs ++ news = ys)
    (h : ∀ A cap w', Row w' (fun b => F b ∨ w.heap.size ≤ b) e size (.slice A N cap) N ys → Only F w w' → wpList Try.prog ops Q rest (a.put o.dst (.slice A N cap)) w') : wpList Try.prog ops Q (o :: rest) a w := by
  obtain ⟨i, z, ht, hi, hz, hsz, hbz, hzs, hs0⟩ := hI
  have hb : (n + m) * bytes ≤ 140737488355328 := by
    have := Nat.mul_le_mul h63 hby
    omega
  refine wpList_append_any (P := Try.prog) hgd s x t ho e i z size bytes ht hi hz hsz hbz hzs hs0 v n xs hs hr.1 ad m c news hx hl hnil hnews h1 (by unfold maxLen; omega) hb N hN ys hys w.heap.size rfl fun A cap w' hr' hg ho' => h A cap w' ⟨hr', fun b hb => ?_⟩ ((Only.refl F w).grown hg fun k hk => .inl (hr.2 k hk))
  rcases ho' with e1 | e1
  · exact .inl (hr.2 b (e1 ▸ hb))
  · rw [e1] at hb
    injection hb with hb
    right
    show w.heap.size ≤ b
    omega
theorem and_rng (x : Int) (m : Nat) (hm : m < 4611686018427387904) : 0 ≤ bits .and .i64 x (m : Int) ∧ bits .and .i64 x (m : Int) ≤ (m : Int) := by
  have key : (BitVec.ofInt 64 x &&& BitVec.ofInt 64 (m : Int)).toNat ≤ m := by
    rw [BitVec.toNat_and]
    refine Nat.le_trans Nat.and_le_right ?_
    rw [BitVec.toNat_ofInt]
    omega
  have e : bits .and .i64 x (m : Int) = IntKind.i64.wrap ((BitVec.ofInt 64 x &&& BitVec.ofInt 64 (m : Int)).toNat : Nat) := rfl
  rw [e, IntKind.wrap_i64]
  omega
/-- Cells of a block, as the news of an append. -/
theorem Blk.news {w : World} {b : Nat} {t : TypeId} {cs : Array Value} (h : Blk w b t cs) {l : List Value} (hl : cs.toList = l) : ∀ a, (some (⟨b, 0, none⟩ : Addr)) = some a → ∀ j u, l[j]? = some u → w.cell? (a.add j) = some u := by
  intro a ha j u hj
  injection ha with ha
  subst ha
  have e : (⟨b, 0, none⟩ : Addr).add j = ⟨b, 0 + j, none⟩ := by unfold Addr.add; split <;> simp_all
  rw [e, h.cell (0 + j), Nat.zero_add, ← Array.getElem?_toList, hl]
  exact hj
end Go.Proofs.Ytkjfbojmkkdgoaa
